/- Texts of this claim, one after the other: AbsC1, AbsC2, AbsC3, AbsC4, AbsC5, AbsC6, AbsC7, AbsC8, AbsC9, AbsD1, AbsD2, AbsZ, AbsI. -/
import Derived.Test.YtpfkjcjgdilkkaaGreatXG2
import Derived.IntWalk

set_option linter.unusedSimpArgs false
set_option linter.unusedVariables false
set_option maxHeartbeats 1000000
namespace Go.Abs
open Go.RowKit
inductive Opd where
 | t (n:Nat)
 | c (v:AV)
 deriving Inhabited
def Opd.of:Operand→Opd
 | .tmp n=>.t n
 | x=>.c (ev (fun _=>.undef) x)
def ov (T:Tm):Opd→AV
 | .t n=>T n
 | .c v=>v
theorem bC {T:Tm} {x:Operand}:ov T (.of x)=ev T x:=by cases x <;> rfl
theorem jg {T:Tm} {l:List Operand}:(l.map Opd.of).map (ov T)=l.map (ev T):=by simp [bC]
theorem nZ {T:Tm} {x:Option Operand}:(x.map Opd.of).map (ov T)=x.map (ev T):=by cases x <;> simp [bC]
inductive Ins where
 | dead
 | mov (x:Opd)
 | pick (c a b:Opd)
 | ld1 (a:Opd)
 | ldn (k:Nat) (a:Opd)
 | nilck (x:Opd)
 | bin (op:BinOp) (tb tf:Bool) (x y:Opd)
 | binS (op:BinOp) (ks:List TK) (x y:Opd)
 | un (op:UnOp) (x:Opd)
 | conv (k:IntKind) (x:Opd)
 | mkfn (f:FuncId) (caps:List Opd)
 | mkbf (f:FuncId) (first:List Opd)
 | slsA (n:Nat) (x:Opd) (lo hi:Option Opd)
 | sls (sz:Nat) (x:Opd) (lo hi mx:Option Opd)
 | slstr (x:Opd) (lo hi:Option Opd)
 | fa (k:Nat) (p:Opd)
 | part1 (off:Nat) (x:Opd)
 | partn (off k:Nat) (x:Opd)
 | ixaA (len sz:Nat) (x i:Opd)
 | ixaS (sz:Nat) (x i:Opd)
 | ixA1 (len sz:Nat) (x i:Opd)
 | ixAn (len sz:Nat) (x i:Opd)
 | ixStr (x i:Opd)
 | ext (x:Opd) (i:Nat)
 | bld (z:List AV) (parts:List (Nat × Nat × Opd))
 | lenS (x:Opd)
 | capE (x:Opd)
 | apz (sz bytes:Nat) (z:List AV) (s x:Opd)
 | lenStr (x:Opd)
 | lenC (n:Nat)
 | mx (x:Opd) (l:List Opd)
 | mn (x:Opd) (l:List Opd)
 | alloc (z:AV)
 | box (x:Opd)
 | bldS (sz len:Nat) (z:List AV) (parts:List (Nat × Nat × Opd))
 | mks (sz bytes:Nat) (z:List AV) (l c:Opd)
 | st (k:Nat) (p x:Opd)
 | app (sz bytes:Nat) (s x:Opd)
 | call (f:Opd) (args:List Opd)
 | mkm (h:Option Opd)
 | mput (k:MK) (m key x:Opd)
 | mdel (k:MK) (m key:Opd)
 | mget (k:MK) (z:AV) (ok:Bool) (m key:Opd)
 | mlen (m:Opd)
 | mrng (m:Opd)
 | mnxt (it:Opd)
 | ment (it:Opd)
 | cpy (sz:Nat) (d s:Opd)
 | clr (sz:Nat) (z:AV) (x:Opd)
 | slp (len sz:Nat) (x:Opd)
 | snil (neg:Bool) (x:Opd)
 | s2b (x:Opd)
 | b2s (x:Opd)
 | mplc (k:MK) (z:AV) (m key:Opd)
 | mpst (m s x:Opd)
def zu (P:Program) (t:TypeId):Bool:=match P.underlying t with | some (.func ..)=>true | _=>false
def bf (op:BinOp) (tb tf:Bool) (x y:AV):Option AV :=
 match x,y with
 | .int k a,.int k' b=>if op=.shl ∨ op=.shr then oD op k a b else if k=k' then eG op k a b else none
 | .bool a,.bool b=>if tb=true then (match op with | .eql=>some (.bool (a == b)) | .neq=>some (.bool (!(a == b))) | _=>none) else none
 | .str a,.str b=>uy op a b
 | .nilf,.nilf=>if tf=true then (match op with | .eql=>some (.bool true) | .neq=>some (.bool false) | _=>none) else none
 | .func _ _,.nilf=>if tf=true then (match op with | .eql=>some (.bool false) | .neq=>some (.bool true) | _=>none) else none
 | _,_=>none
theorem BZ {P:Program} {op:BinOp} {t:TypeId} {x y:AV} {r:AV} (h:bf op (zi P t) (zu P t) x y=some r):zF P op t x y=some r:=by
 unfold bf at h;unfold zF;split at h
 ·exact h
 ·exact h
 ·exact h
 ·split at h
  ·rename_i hf;unfold zu at hf;split at hf
   ·rename_i hu; simp only [hu];split at h <;> simp_all
   ·cases hf
  ·cases h
 ·split at h
  ·rename_i hf;unfold zu at hf;split at hf
   ·rename_i hu; simp only [hu];split at h <;> simp_all
   ·cases hf
  ·cases h
 ·cases h
def fg (sz:Nat) (x i:AV):Option AV:=match i with
 | .int _ n=>match x with
  | .sl s elems=>if s=sz∧0 ≤ n∧n < elems.length then some (.iptr (elems.getD n.toNat .undef).cells 0) else none
  | .msl b m s off len=>if s=sz∧0 ≤ n∧n < len then some (.ptr b m (off + n.toNat * s)) else none
  | _=>none
 | _=>none
def iW (sz:Nat) (x:AV) (lo hi mx:Option AV):Option AV:=match x with
 | .sl s elems =>
  match bA 0 lo,bA elems.length hi,mx with
  | some l,some h,none=>if s=sz∧l ≤ h∧h ≤ elems.length then some (.sl s ((elems.take h).drop l)) else none
  | some l,some h,some m=>match bA 0 (some m) with
   | some m=>if l=0∧h=0∧m=0 then some .esl else none
   | none=>none
  | _,_,_=>none
 | .esl=>match bA 0 lo,bA 0 hi,mx with
  | some 0,some 0,none=>some .esl
  | _,_,_=>none
 | .msl b n s off len =>
  match bA 0 lo,bA len hi,mx with
  | some l,some h,none=>if s=sz∧l ≤ h∧h ≤ len∧n ≠ 0 then (if l=0 ∨ l < h then some (.msl b n s (off + l * s) (h - l)) else some (.sl s [])) else if s=sz∧l < h∧0 < s∧off + h * s ≤ n∧n ≠ 0 then some (.msl b n s (off + l * s) (h - l)) else none
  | some l,some h,some m=>match bA 0 (some m) with
   | some m=>if l=0∧h=0∧m=0 then some .esl else if l ≤ h∧h ≤ m∧m ≤ len∧n ≠ 0 then some .undef else none
   | none=>none
  | _,_,_=>none
 | _=>none
def uu (x:AV) (lo hi:Option AV):Option AV:=match x with
 | .str s=>match bA 0 lo,bA s.size hi with
  | some l,some h=>if l ≤ h∧h ≤ s.size then some (.str (s.extract l h)) else none
  | _,_=>none
 | _=>none
def eF (cells:List AV):List (Nat × Nat × AV)→Option (List AV)
 | []=>some cells
 | (off,size,x) :: rest=>if x.flat=true∧x.cells.length=size∧off + size ≤ cells.length then eF (bu cells off x.cells) rest else none
def dU (x:AV) (f:List AV→Option AV):Option AV:=match x with | .agg cs=>f cs | _=>none
def nk (x:AV) (f:Int→Option AV):Option AV:=match x with | .int _ n=>f n | _=>none
def dK (x:AV):Option AV:=match x with
 | .sl _ elems=>some (.int .i64 elems.length)
 | .esl=>some (.int .i64 0)
 | .msl _ _ _ _ len=>some (.int .i64 len)
 | _=>none
def br (T:Tm) (H:Hp):Ins→Option AV
 | .mov x=>some (ov T x)
 | .pick c a b=>match ov T c with | .bool t=>some (if t=true then ov T a else ov T b) | _=>none
 | .ld1 a=>rd1 H (ov T a)
 | .ldn k a=>(rd H k (ov T a)).map .agg
 | .nilck x=>match ov T x with | .ptr b n o=>some (.ptr b n o) | .iptr c o=>some (.iptr c o) | .func f c=>some (.func f c) | _=>none
 | .bin op tb tf x y=>bf op tb tf (ov T x) (ov T y)
 | .binS op ks x y=>dU (ov T x) fun xs=>dU (ov T y) fun ys=>mJ op ks xs ys
 | .un op x=>aun op (ov T x)
 | .conv k x=>nk (ov T x) fun n=>some (.int k (k.wrap n))
 | .mkfn f caps=>some (.func f (caps.map (ov T)))
 | .mkbf f first=>some (.bfn f (first.map (ov T)))
 | .slsA n x lo hi=>wH n (ov T x) (lo.map (ov T)) (hi.map (ov T)) none
 | .sls sz x lo hi mx=>iW sz (ov T x) (lo.map (ov T)) (hi.map (ov T)) (mx.map (ov T))
 | .slstr x lo hi=>uu (ov T x) (lo.map (ov T)) (hi.map (ov T))
 | .fa k p=>j0 k (ov T p)
 | .part1 off x=>dU (ov T x) fun cs=>cs[off]?
 | .partn off k x=>dU (ov T x) fun cs=>if off + k ≤ cs.length then some (.agg ((cs.drop off).take k)) else none
 | .ixaA len sz x i=>nk (ov T i) fun n=>if 0 ≤ n∧n < len then j0 (n.toNat * sz) (ov T x) else none
 | .ixaS sz x i=>fg sz (ov T x) (ov T i)
 | .ixA1 len sz x i=>dU (ov T x) fun cs=>nk (ov T i) fun n=>if 0 ≤ n∧n < len then cs[n.toNat * sz]? else none
 | .ixAn len sz x i=>dU (ov T x) fun cs=>nk (ov T i) fun n=>if 0 ≤ n∧n < len then (if n.toNat * sz + sz ≤ cs.length then some (.agg ((cs.drop (n.toNat * sz)).take sz)) else none) else none
 | .ixStr x i=>match ov T x with
  | .str s=>nk (ov T i) fun n=>if 0 ≤ n∧n < s.size then some (.int .u8 (s[n.toNat]?.getD 0).toNat) else none
  | _=>none
 | .ext x i=>gG (ov T x) i
 | .bld z parts=>(eF z (parts.map fun p=>(p.1,p.2.1,ov T p.2.2))).map .agg
 | .lenS x=>dK (ov T x)
 | .capE x=>match ov T x with | .esl=>some (.int .i64 0) | _=>none
 | .lenStr x=>match ov T x with | .str s=>some (.int .i64 s.size) | _=>none
 | .lenC n=>some (.int .i64 n)
 | .mx x l=>gy ny (ov T x) (l.map (ov T))
 | .mn x l=>gy ns (ov T x) (l.map (ov T))
 | _=>none
def Cp (sz bytes:Nat) (s x:AV) (H:Hp) (nx:Nat):Option (AV × Hp × Nat) :=
 match ed sz H x with
 | none=>none
 | some (k,new) =>
  if new.all AV.one=true then
   match s with
   | .esl=>if k * bytes ≤ 140737488355328∧k ≤ 9223372036854775807 then some (.msl nx (k * sz) sz 0 k,ao H nx new,nx + 1) else none
   | .msl b n s off len=>match H b with
    | some cs =>
     if cs.length=n∧s=sz then
      if off=0∧n=len * s∧(len + k) * bytes ≤ 140737488355328∧len + k ≤ 9223372036854775807 then some (.msl b ((len + k) * s) s 0 (len + k),ao H b (cs ++ new),nx)
      else if off + (len + k) * s ≤ n∧0 < n then some (.msl b n s off (len + k),ao H b (bu cs (off + len * s) new),nx)
      else if off=0∧len * s < n∧n < (len + k) * s∧(len + k) * bytes ≤ 140737488355328∧len + k ≤ 9223372036854775807 then some (.msl b ((len + k) * s) s 0 (len + k),ao H b (cs.take (len * s) ++ new),nx)
      else none
     else none
    | none=>none
   | _=>none
  else none
def gd (T:Tm) (H:Hp) (nx:Nat):Ins→Option (AV × Hp × Nat)
 | .alloc z=>pO z H nx
 | .box x=>pO (ov T x) H nx
 | .bldS sz len z parts=>if len=0 then (if parts.isEmpty=true then some (.esl,H,nx) else none) else
     match eF (be (.agg z) len) (parts.map fun p=>(p.1,p.2.1,ov T p.2.2)) with
     | some cells=>some (.msl nx cells.length sz 0 len,ao H nx cells,nx + 1)
     | none=>none
 | .mks sz bytes z l c=>match ov T l,ov T c with
  | .int _ n,.int _ m=>if 0 ≤ n∧n ≤ m∧m ≤ 9223372036854775807∧bytes * m ≤ 281474976710656 then some (.msl nx (m.toNat * sz) sz 0 n.toNat,ao H nx (be (.agg z) m.toNat),nx + 1) else none
  | _,_=>none
 | .st k p x=>match ov T p with
  | .ptr b n off=>match H b with
   | some cs=>if cs.length=n∧(ov T x).flat=true∧(ov T x).cells.length=k∧off + k ≤ n then some (.tup [],ao H b (bu cs off (ov T x).cells),nx) else none
   | none=>none
  | _=>none
 | .app sz bytes s x=>Cp sz bytes (ov T s) (ov T x) H nx
 | .apz sz bytes z s x=>match ov T s,ov T x with
  | .esl,.int _ n=>if 0 < n∧n ≤ 9223372036854775807∧n.toNat * bytes ≤ 140737488355328 then some (.msl nx (n.toNat * sz) sz 0 n.toNat,ao H nx (be (.agg z) n.toNat),nx + 1) else none
  | _,_=>none
 | _=>none
def Ew (lo hi mx:Option Operand):Bool:=!(mx.isSome && hi.isNone)
def mY (pl:List (Nat × Nat)):List (Nat × Operand)→Option (List (Nat × Nat × Opd))
 | []=>some []
 | (i,x) :: l=>match pl[i]?,mY pl l with
  | some (o,s),some r=>some ((o,s,.of x) :: r)
  | _,_=>none
def ji (sz:Nat) (l:List (Nat × Operand)):List (Nat × Nat × Opd):=l.map fun p=>(p.1 * sz,sz,.of p.2)
def gS (P:Program):Op→Option Ins
 | .move x=>some (.mov (.of x))
 | .assign x=>some (.mov (.of x))
 | .pick c a b=>some (.pick (.of c) (.of a) (.of b))
 | .load t a=>if tok P t then (if nz P t then (if 0 < P.cellsOf t then some (.ldn (P.cellsOf t) (.of a)) else none) else some (.ld1 (.of a))) else none
 | .nilCheck x=>some (.nilck (.of x))
 | .binOp op t x y _=>match fW P t with | some _=>none | none=>match DI P t with | some ks=>some (.binS op ks (.of x) (.of y)) | none=>some (.bin op (zi P t) (zu P t) (.of x) (.of y))
 | .unOp op _ x=>some (.un op (.of x))
 | .convert s d x=>if tok P s then (match kp P d with | some k=>some (.conv k (.of x)) | none=>none) else none
 | .makeFunc (.func f) first captured=>if first.size=0 then some (.mkfn f (captured.toList.map .of)) else if captured.size=0 then some (.mkbf f (first.toList.map .of)) else none
 | .slice t x lo hi mx=>if Ew lo hi mx then (match P.underlying t with
  | some (.slice e)=>if tok P e then some (.sls (P.cellsOf e) (.of x) (lo.map .of) (hi.map .of) (mx.map .of)) else none
  | some .string=>match mx with | none=>some (.slstr (.of x) (lo.map .of) (hi.map .of)) | some _=>none
  | some (.array n e)=>if tok P e=true∧P.cellsOf e=1 then (match mx with | none=>some (.slsA n (.of x) (lo.map .of) (hi.map .of)) | some _=>none) else none
  | _=>none) else none
 | .fieldAddr t x f=>match FQ P t f with | some k=>some (.fa k (.of x)) | none=>none
 | .field t x f=>match P.underlying t with
  | some (.struct fs)=>match fs[f]? with
   | some fd=>if tok P fd.type then (if nz P fd.type then some (.partn fd.offset (P.cellsOf fd.type) (.of x)) else some (.part1 fd.offset (.of x))) else none
   | none=>none
  | _=>none
 | .indexAddr t x i=>match P.underlying t with
  | some (.array len e)=>if tok P e then some (.ixaA len (P.cellsOf e) (.of x) (.of i)) else none
  | some (.slice e)=>if tok P e then some (.ixaS (P.cellsOf e) (.of x) (.of i)) else none
  | _=>none
 | .index t x i=>match P.underlying t with
  | some (.array len e)=>if tok P e then (if nz P e then some (.ixAn len (P.cellsOf e) (.of x) (.of i)) else some (.ixA1 len (P.cellsOf e) (.of x) (.of i))) else none
  | some .string=>some (.ixStr (.of x) (.of i))
  | _=>none
 | .extract x i=>some (.ext (.of x) i)
 | .build t parts=>match ft P t with
  | some z=>if z.flat=true then
   match uo P t with
   | some pl=>match mY pl parts.toList with
    | some ps=>some (.bld z.cells ps)
    | none=>none
   | none=>match xW P t with
    | some (_,e)=>if tok P e=true then some (.bld z.cells (ji (P.cellsOf e) parts.toList)) else none
    | none=>none
   else none
  | none=>none
 | .call { callee:=.builtin .len,args:=⟨[x]⟩,argTypes:=⟨[t]⟩ }=>match P.underlying t with
  | some (.slice _)=>some (.lenS (.of x))
  | some .string=>some (.lenStr (.of x))
  | some (.array n _)=>some (.lenC n)
  | _=>none
 | .call { callee:=.builtin .max,args:=⟨x :: l⟩,argTypes:=_ }=>some (.mx (.of x) (l.map .of))
 | .call { callee:=.builtin .cap,args:=⟨[x]⟩,argTypes:=⟨[t]⟩ }=>match fW P t with
  | some _=>some (.capE (.of x))
  | none=>none
 | .call { callee:=.builtin .min,args:=⟨x :: l⟩,argTypes:=_ }=>some (.mn (.of x) (l.map .of))
 | _=>none
def kJ (P:Program):Op→Option Ins
 | .alloc e=>match ft P e with | some z=>some (.alloc z) | none=>none
 | .box _ x=>some (.box (.of x))
 | .buildSlice t len parts=>match fW P t with
  | none=>none
  | some e=>if tok P e=true∧0 < P.cellsOf e∧len * P.cellsOf e ≤ 16777216 then (match ft P e with
   | some z=>if z.flat=true∧z.cells.length=P.cellsOf e then some (.bldS (P.cellsOf e) len z.cells (ji (P.cellsOf e) parts.toList)) else none
   | none=>none) else none
 | .makeSlice t l c=>match fW P t with
  | none=>none
  | some e=>match ft P e with
   | some z=>if tok P e=true∧z.flat=true∧z.cells.length=P.cellsOf e∧0 < P.cellsOf e then some (.mks (P.cellsOf e) (eO P e) z.cells (.of l) (.of c)) else none
   | none=>none
 | .store t p x=>if tok P t=true∧0 < P.cellsOf t then some (.st (P.cellsOf t) (.of p) (.of x)) else none
 | .call { callee:=.builtin .append,args:=⟨[s,x]⟩,argTypes:=⟨[tS,tX]⟩ }=>match fW P tS with
  | none=>none
  | some e=>if tok P e=true∧tok P tX=true∧kp P tX=none∧0 < P.cellsOf e∧zok P e=true then some (.app (P.cellsOf e) (eO P e) (.of s) (.of x)) else if (kp P tX).isSome=true then (match ft P e with
   | some z=>if tok P e=true∧z.flat=true∧z.cells.length=P.cellsOf e∧0 < P.cellsOf e∧zok P e=true then some (.apz (P.cellsOf e) (eO P e) z.cells (.of s) (.of x)) else none
   | none=>none) else none
 | _=>none
theorem lR {T:Tm} (pl:List (Nat × Nat)):∀ (parts:List (Nat × Operand)) (ps:List (Nat × Nat × Opd)) (cells:List AV),mY pl parts=some ps →
    gU (fun i=>pl[i]?) cells (parts.map fun p=>(p.1,ev T p.2))=eF cells (ps.map fun p=>(p.1,p.2.1,ov T p.2.2))
 | [],ps,cells,h=>by cases h; rfl
 | (i,x) :: l,ps,cells,h=>by
  simp only [mY] at h;split at h
  ·rename_i o s r h1 h2;cases h;simp only [gv,gU,h1,eF,bC];split
   ·exact lR pl l r _ h2
   ·rfl
  ·cases h
theorem iB {T:Tm} (sz:Nat):∀ (parts:List (Nat × Operand)) (cells:List AV),
    gU (fun i=>some (i * sz,sz)) cells (parts.map fun p=>(p.1,ev T p.2))=eF cells ((ji sz parts).map fun p=>(p.1,p.2.1,ov T p.2.2))
 | [],cells=>rfl
 | (i,x) :: l,cells=>by
  simp only [gv,gU,eF,ji,bC];split
  ·exact iB sz l _
  ·rfl
theorem jK (z:AV) (k:Nat):be (.agg z.cells) k=be z k:=rfl
theorem tZ {P:Program} {op:Op} {i:Ins} {T:Tm} {H:Hp} {r:AV} (hc:gS P op=some i) (h:br T H i=some r):cR P T H op=some r:=by
 cases op with
 | move x=>cases hc; simp only [br,bC] at h; exact h
 | assign x=>cases hc; simp only [br,bC] at h; exact h
 | pick c a b=>cases hc; simp only [br,bC] at h; exact h
 | load t a =>
  simp only [gS] at hc;simp only [cR,jq];split at hc
  ·rename_i h1;rw [if_pos h1];split at hc
   ·rename_i h2;rw [if_pos h2];split at hc
    ·rename_i h3;rw [if_pos h3];cases hc; simp only [br,bC] at h; exact h
    ·cases hc
   ·rename_i h2;rw [if_neg h2];cases hc; simp only [br,bC] at h; exact h
  ·cases hc
 | nilCheck x=>cases hc; simp only [br,bC] at h; exact h
 | binOp op t x y _ =>
  simp only [gS] at hc;split at hc
  ·cases hc
  split at hc
  ·rename_i ks hks;cases hc;simp only [br,bC] at h;simp only [cR];unfold dU at h;split at h
   ·rename_i cs hx;split at h
    ·rename_i cs' hy;rw [hx,hy];simp only [zF,hks]; exact h
    ·cases h
   ·cases h
  ·cases hc; simp only [br,bC] at h; exact BZ h
 | unOp op _ x=>cases hc; simp only [br,bC] at h; exact h
 | convert s d x =>
  simp only [gS] at hc;split at hc
  ·rename_i h1;split at hc
   ·rename_i k hk;cases hc;simp only [br,bC] at h;simp only [cR,y5];unfold nk at h;split at h
    ·rename_i hx; simp only [hx,h1,hk,if_true]; exact h
    ·cases h
   ·cases hc
  ·cases hc
 | makeFunc fn first captured =>
  cases fn with
  | func f =>
   simp only [gS] at hc;split at hc
   ·rename_i h1;cases hc;simp only [br,jg] at h;simp only [cR,if_pos h1]; exact h
   ·rename_i h1;split at hc
    ·rename_i h2;cases hc;simp only [br,jg] at h;simp only [cR,if_neg h1,if_pos h2]; exact h
    ·cases hc
  | _=>cases hc
 | slice t x lo hi mx =>
  simp only [gS] at hc;split at hc
  ·rename_i hb
   have hb':¬ (mx.isSome=true∧hi.isNone=true):=by
    rintro ⟨h1,h2⟩;simp [Ew,h1,h2] at hb
   split at hc
   ·rename_i e hu;split at hc
    ·rename_i h1;cases hc;simp only [br,bC,nZ] at h;simp only [cR,if_neg hb',oV,hu,h1,if_true];exact h
    ·cases hc
   ·rename_i hu;split at hc
    ·cases hc;simp only [br,bC,nZ] at h;simp only [cR,if_neg hb',oV,hu];unfold uu at h;split at h
     ·rename_i s hs;rw [hs];simp only [Option.map_none];split at h
      ·rename_i l h' e1 e2;simp only [e1,e2]; exact h
      ·cases h
     ·cases h
    ·cases hc
   ·rename_i n e hu;split at hc
    ·rename_i h1;split at hc
     ·cases hc;simp only [br,bC,nZ] at h;simp only [cR,if_neg hb',oV,hu,if_pos h1];exact h
     ·cases hc
    ·cases hc
   ·cases hc
  ·cases hc
 | fieldAddr t x f =>
  simp only [gS] at hc;split at hc
  ·rename_i k hk;cases hc;simp only [br,bC] at h;simp only [cR,jV,hk]; exact h
  ·cases hc
 | field t x f =>
  simp only [gS] at hc;split at hc
  ·rename_i fs hu;split at hc
   ·rename_i fd hfd;split at hc
    ·rename_i h1;split at hc
     ·rename_i h2;cases hc;simp only [br,bC] at h;unfold dU at h;split at h
      ·rename_i cs hx;simp only [cR,qN,hx,hu,hfd,apart,h1,h2,if_true]; exact h
      ·cases h
     ·rename_i h2;cases hc;simp only [br,bC] at h;unfold dU at h;split at h
      ·rename_i cs hx;simp only [cR,qN,hx,hu,hfd,apart,h1,h2,if_true]; exact h
      ·cases h
    ·cases hc
   ·cases hc
  ·cases hc
 | indexAddr t x i =>
  simp only [gS] at hc;split at hc
  ·rename_i len e hu;split at hc
   ·rename_i h1;cases hc;simp only [br,bC] at h;unfold nk at h;split at h
    ·rename_i n hn;simp only [cR,iz,hn,hu,h1,true_and];exact h
    ·cases h
   ·cases hc
  ·rename_i e hu;split at hc
   ·rename_i h1;cases hc;simp only [br,bC] at h;unfold fg at h;split at h
    ·rename_i n hn;simp only [cR,iz,hn,hu,h1,if_true];split at h
     ·rename_i s elems hx;simp only [hx];split at h
      ·rename_i hb;obtain ⟨b1,b2,b3⟩:=hb;rw [if_pos ⟨b1,b2⟩];have hlt:n.toNat < elems.length:=by omega
       rw [rf hlt];simp only [List.getD,rf hlt,vS] at h;exact h
      ·cases h
     ·rename_i hx;simp only [hx]; exact h
     ·cases h
    ·cases h
   ·cases hc
  ·cases hc
 | index t x i =>
  simp only [gS] at hc;split at hc
  ·rename_i len e hu;have hta:xW P t=some (len,e):=by simp [xW,hu]
   split at hc
   ·rename_i h1;split at hc
    ·rename_i h2;cases hc;simp only [br,bC] at h;unfold dU at h;split at h
     ·rename_i cs hx;unfold nk at h;split at h
      ·rename_i n hn;simp only [cR,oh,hx,hn,hta,apart,h1,h2,if_true]; exact h
      ·cases h
     ·cases h
    ·rename_i h2;cases hc;simp only [br,bC] at h;unfold dU at h;split at h
     ·rename_i cs hx;unfold nk at h;split at h
      ·rename_i n hn;simp only [cR,oh,hx,hn,hta,apart,h1,h2,if_true]; exact h
      ·cases h
     ·cases h
   ·cases hc
  ·rename_i hu;cases hc;simp only [br,bC] at h;split at h
   ·rename_i s hs;unfold nk at h;split at h
    ·rename_i n hn;simp only [cR,oh,hs,hn,hu];simp only at h;split at h
     ·rename_i hb;rw [if_pos hb.1];have hlt:n.toNat < s.size:=by omega
      have e:s[n.toNat]?=some s[n.toNat]:=by simp [hlt]
      rw [e] at h ⊢;exact h
     ·cases h
    ·cases h
   ·cases h
  ·cases hc
 | extract x i=>cases hc; simp only [br,bC] at h; exact h
 | build t parts =>
  simp only [gS] at hc;split at hc
  ·rename_i z hz;split at hc
   ·rename_i hf;split at hc
    ·rename_i pl hpl;split at hc
     ·rename_i ps hps;cases hc;simp only [br] at h;rw [← lR pl _ _ _ hps] at h;simp only [cR,qM,hz,hpl,if_pos hf]; exact h
     ·cases hc
    ·rename_i hpl;split at hc
     ·rename_i k e hta;split at hc
      ·rename_i h1;cases hc;simp only [br] at h;rw [← iB] at h;simp only [cR,qM,hz,hpl,if_pos hf,hta,if_pos h1]; exact h
      ·cases hc
     ·cases hc
   ·cases hc
  ·cases hc
 | call c =>
  obtain ⟨callee,args,argTypes⟩:=c;cases callee with
  | builtin b =>
   obtain ⟨args⟩:=args;obtain ⟨argTypes⟩:=argTypes;cases b with
   | len =>
    rcases args with _ | ⟨x,_ | ⟨y,l⟩⟩
    ·cases hc
    ·rcases argTypes with _ | ⟨t,_ | ⟨u,l⟩⟩
     ·cases hc
     ·simp only [gS] at hc;split at hc
      ·rename_i e hu;cases hc;simp only [br,bC] at h;unfold dK at h;simp only [cR,zx,hu];split at h <;> rename_i hx <;> first | (simp only [hx]; exact h) | cases h
      ·rename_i hu;cases hc;simp only [br,bC] at h;simp only [cR,zx,hu];split at h <;> rename_i hx <;> first | (simp only [hx]; exact h) | cases h
      ·rename_i n e hu;cases hc;simp only [br] at h;simp only [cR,zx,hu];exact h
      ·cases hc
     ·cases hc
    ·cases hc
   | max =>
    rcases args with _ | ⟨x,l⟩
    ·cases hc
    ·cases hc;simp only [br,bC,jg] at h; exact h
   | cap =>
    rcases args with _ | ⟨x,_ | ⟨y,l⟩⟩
    ·cases hc
    ·rcases argTypes with _ | ⟨t,_ | ⟨u,l⟩⟩
     ·cases hc
     ·simp only [gS] at hc;split at hc
      ·rename_i e he;cases hc;simp only [br,bC] at h;simp only [cR,he];split at h <;> rename_i hx <;> first | (simp only [hx]; exact h) | cases h
      ·cases hc
     ·cases hc
    ·cases hc
   | min =>
    rcases args with _ | ⟨x,l⟩
    ·cases hc
    ·cases hc;simp only [br,bC,jg] at h; exact h
   | _=>cases hc
  | _=>cases hc
 | _=>cases hc
theorem y8 {P:Program} {op:Op} {i:Ins} {T:Tm} {H:Hp} {nx:Nat} {r:AV × Hp × Nat} (hc:kJ P op=some i) (h:gd T H nx i=some r):fk P T H nx op=some r:=by
 cases op with
 | alloc e =>
  simp only [kJ] at hc;split at hc
  ·rename_i z hz;cases hc;simp only [fk,qE,hz]; exact h
  ·cases hc
 | box _ x=>cases hc; simp only [gd,bC] at h; exact h
 | buildSlice t len parts =>
  simp only [kJ] at hc;split at hc
  ·cases hc
  ·rename_i e he;split at hc
   ·rename_i h1;split at hc
    ·rename_i z hz;split at hc
     ·rename_i h2;cases hc;simp only [gd] at h;simp only [fk,nA,he,if_pos h1];split at h
      ·rename_i hl;rw [if_pos hl];split at h
       ·rename_i hp
        have:parts.toList=[]:=by
         unfold ji at hp;simpa using hp
        rw [this]; exact h
       ·cases h
      ·rename_i hl;rw [if_neg hl];simp only [hz,if_pos h2];rw [jK,← iB] at h;exact h
     ·cases hc
    ·cases hc
   ·cases hc
 | makeSlice t l c =>
  simp only [kJ] at hc;split at hc
  ·cases hc
  ·rename_i e he;split at hc
   ·rename_i z hz;split at hc
    ·rename_i h1;cases hc;simp only [gd,bC] at h;split at h
     ·rename_i k n k' m hl hm;split at h
      ·rename_i hb;simp only [fk,va,he,hl,hm,hz];rw [if_pos ⟨h1.1,h1.2.1,h1.2.2.1,h1.2.2.2,hb.1,hb.2.1,hb.2.2.1,hb.2.2.2⟩];rw [jK] at h;exact h
      ·cases h
     ·cases h
    ·cases hc
   ·cases hc
 | store t p x =>
  simp only [kJ] at hc;split at hc
  ·rename_i h1;cases hc;simp only [gd,bC] at h;split at h
   ·rename_i b n off hp;split at h
    ·rename_i cs hb;split at h
     ·rename_i h2;simp only [fk,oS,hp,hb];rw [if_pos ⟨h2.1,h1.1,h2.2.1,h2.2.2.1,h2.2.2.2,h1.2⟩];exact h
     ·cases h
    ·cases h
   ·cases h
  ·cases hc
 | call c =>
  obtain ⟨callee,args,argTypes⟩:=c;cases callee with
  | builtin b =>
   obtain ⟨args⟩:=args;obtain ⟨argTypes⟩:=argTypes;cases b with
   | append =>
    rcases args with _ | ⟨x,_ | ⟨y,_ | ⟨z,l⟩⟩⟩
    ·cases hc
    ·cases hc
    ·rcases argTypes with _ | ⟨t,_ | ⟨u,_ | ⟨v,l⟩⟩⟩
     ·cases hc
     ·cases hc
     ·simp only [kJ] at hc;split at hc
      ·cases hc
      ·rename_i e he;split at hc
       ·rename_i h1;cases hc;simp only [gd,bC] at h;simp only [fk,h1.2.2.1,Option.isSome_none,iI,if_false];simp only [m9,he,if_pos h1];exact h
       ·split at hc
        ·rename_i hti;obtain ⟨kx,hkx⟩:=Bl.1 hti;split at hc
         ·rename_i z hz;split at hc
          ·rename_i h2;cases hc;simp only [gd,bC] at h;split at h
           ·rename_i kn n hs hx;split at h
            ·rename_i h3;simp only [fk,hkx,Option.isSome_some,if_true,xi,he,hs,hx,hz];rw [if_pos ⟨h2.1,h2.2.1,h2.2.2.1,h2.2.2.2.1,h2.2.2.2.2,h3.1,h3.2.1,h3.2.2⟩];rw [jK] at h;exact h
            ·cases h
           ·cases h
          ·cases hc
         ·cases hc
        ·cases hc
     ·cases hc
    ·cases hc
   | _=>cases hc
  | _=>cases hc
 | _=>cases hc
def isp (i:Ins) (T:Tm) (H:Hp) (nx:Nat) (K:AV→Hp→Nat→Prop):Prop:=match i with
 | .mkm h=>(h=none ∨ ∃ x k n,h=some x∧ov T x=.int k n)∧(K (.mp nx) (ao H nx [.omap [] []]) (nx + 1) ∨ K (.mp nx) (ao H nx [.bmap [] [] [] 0]) (nx + 1))
 | .mput k m key x=>(∃ b ks vs r,ov T m=.mp b∧H b=some [.omap ks vs]∧i6 k (ov T key)=true∧dv k (ov T key) ks=some r∧K (.tup []) (ao H b [.omap (cI (ov T key) r ks) (fU (ov T x) r vs)]) nx) ∨
     ∃ b ks vs bs ck r,ov T m=.mp b∧H b=some [.bmap ks vs bs ck]∧i6 k (ov T key)=true∧dv k (ov T key) ks=some r∧K (.tup []) (ao H b [.bmap (cI (ov T key) r ks) (fU (ov T x) r vs) (qd ck r bs) (vt ck r)]) nx
 | .mdel k m key=>∃ b ks vs bs ck r,ov T m=.mp b∧H b=some [.bmap ks vs bs ck]∧i6 k (ov T key)=true∧dv k (ov T key) ks=some r∧K (.tup []) (ao H b [.bmap (nw r ks) (nw r vs) (nw r bs) ck]) nx
 | .mget k z ok m key=>(∃ b ks vs r,ov T m=.mp b∧H b=some [.omap ks vs]∧i6 k (ov T key)=true∧dv k (ov T key) ks=some r∧K (Go.Abs.mget z ok r vs) H nx) ∨
     ∃ b ks vs bs ck r,ov T m=.mp b∧H b=some [.bmap ks vs bs ck]∧i6 k (ov T key)=true∧dv k (ov T key) ks=some r∧K (Go.Abs.mget z ok r vs) H nx
 | .mlen m=>(∃ b ks vs,ov T m=.mp b∧H b=some [.omap ks vs]∧K (.int .i64 ks.length) H nx) ∨ ∃ b ks vs bs ck,ov T m=.mp b∧H b=some [.bmap ks vs bs ck]∧K (.int .i64 ks.length) H nx
 | .mrng m=>(∃ b ks vs,ov T m=.mp b∧H b=some [.omap ks vs]∧K (.itr nx) (ao H nx [.oiter b ks.length []]) (nx + 1)) ∨ ∃ b ks vs bs ck,ov T m=.mp b∧H b=some [.bmap ks vs bs ck]∧K (.itr nx) (ao H nx [.biter b ck []]) (nx + 1)
 | .mnxt it=>(∃ b m n0 seen ks vs,ov T it=.itr b∧H b=some [.oiter m n0 seen]∧H m=some [.omap ks vs]∧ks.length=n0 ∧
     (∀ i,i < ks.length→i ∉ seen→K (.tup [.bool true,ks.getD i .undef,vs.getD i .undef]) (ao H b [.oiter m n0 (seen ++ [i])]) nx) ∧
     ((∀ i,i < n0→i < ks.length→i ∈ seen)→K (.tup [.bool false]) H nx)) ∨
     ∃ (b m ck:Nat) (seen:List Nat) (ks vs:List AV) (bs:List Nat),ov T it=.itr b∧H b=some [.biter m ck seen]∧H m=some [.bmap ks vs bs ck] ∧
     (∀ (i s:Nat),bs[i]?=some s→s ∉ seen→K (.tup [.bool true,ks.getD i .undef,vs.getD i .undef]) (ao H b [.biter m ck (seen ++ [s])]) nx) ∧
     ((∀ s ∈ bs,s ∈ seen)→K (.tup [.bool false]) H nx)
 | .ment it=>(∃ b m n0 i seen ks vs,ov T it=.itr b∧H b=some [.oiter m n0 seen]∧H m=some [.omap ks vs]∧ks.length=n0∧seen.getLast?=some i∧i < ks.length∧K (.tup [ks.getD i .undef,vs.getD i .undef]) H nx) ∨
     ∃ (b m ck i s:Nat) (seen:List Nat) (ks vs:List AV) (bs:List Nat),ov T it=.itr b∧H b=some [.biter m ck seen]∧H m=some [.bmap ks vs bs ck]∧seen.getLast?=some s∧bs[i]?=some s∧K (.tup [ks.getD i .undef,vs.getD i .undef]) H nx
 | .cpy sz d s=>∃ n H',lV sz (ov T d) (ov T s) H=some (n,H')∧K (.int .i64 n) H' nx
 | .clr sz z x=>∃ H',iG sz z (ov T x) H=some H'∧K (.tup []) H' nx
 | .slp len sz x=>∃ (b n off:Nat) (cs:List AV),ov T x=.ptr b n off∧H b=some cs∧cs.length=n∧off + len * sz=n∧K (.msl b n sz off len) H nx
 | .snil neg x=>∃ k,f0 (ov T x)=some k∧yV neg k fun r=>K r H nx
 | .s2b x=>∃ bs:ByteArray,ov T x=.str bs∧(bs.size=0→K (.sl 1 []) H nx)∧(bs.size ≠ 0→K (.msl nx bs.size 1 0 bs.size) (ao H nx (bs.data.toList.map lO)) (nx + 1))
 | .b2s x=>∃ (n:Nat) (bs:List UInt8),ed 1 H (ov T x)=some (n,bs.map lO)∧K (.str ⟨bs.toArray⟩) H nx
 | .mplc k z m key=>∃ b ks vs r,ov T m=.mp b∧H b=some [.omap ks vs]∧i6 k (ov T key)=true∧dv k (ov T key) ks=some r∧K (.tup [xz z r vs,.int .i64 (vL r ks)]) (ao H b [.omap (cI (ov T key) r ks) (kC z r vs)]) nx
 | .mpst m s x=>∃ (b:Nat) (ks vs:List AV) (i:Nat),ov T m=.mp b∧H b=some [.omap ks vs]∧ov T s=.int .i64 (i:Int)∧i < ks.length∧K (.tup []) (ao H b [.omap ks (vs.set i (ov T x))]) nx
 | _=>False
def wx (P:Program):Op→Option Ins
 | .makeMap t r=>match iE P t with | some _=>some (.mkm (r.map .of)) | none=>none
 | .mapUpdate t m k x=>match iE P t with
  | some (kt,_)=>(mkk P kt).map fun mk=>.mput mk (.of m) (.of k) (.of x)
  | none=>none
 | .insert t m k x=>match iE P t with
  | some (kt,_)=>(mkk P kt).map fun mk=>.mput mk (.of m) (.of k) (.of x)
  | none=>none
 | .lookup t m k ok=>match iE P t with
  | some (kt,et)=>match mkk P kt,ft P et with
   | some mk,some z=>some (.mget mk z ok (.of m) (.of k))
   | _,_=>none
  | none=>none
 | .range t m=>match iE P t with | some _=>some (.mrng (.of m)) | none=>none
 | .next it false=>some (.mnxt (.of it))
 | .entry it=>some (.ment (.of it))
 | .call { callee:=.builtin .len,args:=⟨[x]⟩,argTypes:=⟨[t]⟩ }=>match iE P t with | some _=>some (.mlen (.of x)) | none=>none
 | .call { callee:=.builtin .delete,args:=⟨[m,k]⟩,argTypes:=⟨[t,_]⟩ }=>match iE P t with
  | some (kt,_)=>(mkk P kt).map fun mk=>.mdel mk (.of m) (.of k)
  | none=>none
 | .binOp .eql t x (.const (.slice none 0 0)) _=>match fW P t with | some _=>some (.snil false (.of x)) | none=>none
 | .binOp .neq t x (.const (.slice none 0 0)) _=>match fW P t with | some _=>some (.snil true (.of x)) | none=>none
 | .call { callee:=.builtin .copy,args:=⟨[d,s]⟩,argTypes:=⟨[tD,_]⟩ }=>match fW P tD with
  | some e=>if tok P e=true then some (.cpy (P.cellsOf e) (.of d) (.of s)) else none
  | none=>none
 | .call { callee:=.builtin .clear,args:=⟨[x]⟩,argTypes:=⟨[t]⟩ }=>match fW P t with
  | some e=>match ft P e with
   | some z=>if 0 < P.cellsOf e then some (.clr (P.cellsOf e) z (.of x)) else none
   | none=>none
  | none=>none
 | .convert s d x=>match P.underlying s,P.underlying d with
  | some .string,some (.slice e)=>if kp P e=some .u8 then some (.s2b (.of x)) else none
  | some (.slice e),some .string=>if kp P e=some .u8 then some (.b2s (.of x)) else none
  | _,_=>none
 | .mapEntry t m k=>match iE P t with
  | some (kt,et)=>match mkk P kt,ft P et with
   | some mk,some z=>some (.mplc mk z (.of m) (.of k))
   | _,_=>none
  | none=>none
 | .entryStore _ m s x=>some (.mpst (.of m) (.of s) (.of x))
 | .slice t x none none none=>match P.underlying t with
  | some (.array n e)=>if tok P e=true∧0 < n then some (.slp n (P.cellsOf e) (.of x)) else none
  | _=>none
 | _=>none
theorem EP {P:Program} {op:Op} {i:Ins} {T:Tm} {H:Hp} {nx:Nat} {K:AV→Hp→Nat→Prop} (hc:wx P op=some i) (h:isp i T H nx K):de P op T H nx K:=by
 have put:∀ t m k x,wx P (.mapUpdate t m k x)=some i→isp i T H nx K→de P (.mapUpdate t m k x) T H nx K:=by
  intro t m k x hc h;simp only [wx] at hc;split at hc
  ·rename_i kt et ht;cases hk:mkk P kt with
   | none=>rw [hk] at hc; cases hc
   | some mk =>
    rw [hk] at hc; cases hc;rcases h with ⟨b,ks,vs,r,h1,h2,h3,h4,h5⟩ | ⟨b,ks,vs,bs,ck,r,h1,h2,h3,h4,h5⟩
    ·simp only [bC] at h1 h3 h4 h5;exact pK ht hk h1 h2 h3 h4 h5
    ·simp only [bC] at h1 h3 h4 h5;exact nU ht hk h1 h2 h3 h4 h5
  ·cases hc
 unfold wx at hc;split at hc
 ·rename_i t r;split at hc
  ·rename_i p ht;cases hc;obtain ⟨h1,h2⟩:=h
   have h4:r=none ∨ ∃ x n k p,r=some x∧ev T x=.int k n∧iE P t=some p:=by
    rcases h1 with h1 | ⟨x,k,n,h1,h3⟩
    ·cases r with
     | none=>exact .inl rfl
     | some r=>cases h1
    ·cases r with
     | none=>cases h1
     | some r=>cases h1; rw [bC] at h3; exact .inr ⟨r,n,k,p,rfl,h3,ht⟩
   rcases h2 with h2 | h2
   ·exact si h4 h2
   ·exact qX h4 h2
  ·cases hc
 ·rename_i t m k x;exact put t m k x hc h
 ·rename_i t m k x;exact uK (put t m k x hc h)
 ·rename_i t m k ok;split at hc
  ·rename_i kt et ht;split at hc
   ·rename_i mk z hk hz;cases hc;rcases h with ⟨b,ks,vs,r,h1,h2,h3,h4,h5⟩ | ⟨b,ks,vs,bs,ck,r,h1,h2,h3,h4,h5⟩
    ·simp only [bC] at h1 h3 h4;exact uc ht hk hz h1 h2 h3 h4 h5
    ·simp only [bC] at h1 h3 h4;exact sF ht hk hz h1 h2 h3 h4 h5
   ·cases hc
  ·cases hc
 ·rename_i t m;split at hc
  ·rename_i p ht;cases hc;rcases h with ⟨b,ks,vs,h1,h2,h3⟩ | ⟨b,ks,vs,bs,ck,h1,h2,h3⟩
   ·rw [bC] at h1;exact ut ht h1 h2 h3
   ·rw [bC] at h1;exact sD ht h1 h2 h3
  ·cases hc
 ·cases hc;rcases h with ⟨b,m,n0,seen,ks,vs,h1,h2,h3,h4,h5,h6⟩ | ⟨b,m,ck,seen,ks,vs,bs,h1,h2,h3,h5,h6⟩
  ·rw [bC] at h1;exact xk h1 h2 h3 h4 h5 h6
  ·rw [bC] at h1;exact uf h1 h2 h3 h5 h6
 ·cases hc;rcases h with ⟨b,m,n0,i,seen,ks,vs,h1,h2,h3,h4,h5,h6,h7⟩ | ⟨b,m,ck,i,s,seen,ks,vs,bs,h1,h2,h3,h5,h6,h7⟩
  ·rw [bC] at h1;exact ug h1 h2 h3 h4 h5 h6 h7
  ·rw [bC] at h1;exact sq h1 h2 h3 h5 h6 h7
 ·rename_i x t;split at hc
  ·rename_i p ht;cases hc;rcases h with ⟨b,ks,vs,h1,h2,h3⟩ | ⟨b,ks,vs,bs,ck,h1,h2,h3⟩
   ·rw [bC] at h1;exact yd ht h1 h2 h3
   ·rw [bC] at h1;exact wc ht h1 h2 h3
  ·cases hc
 ·rename_i m k t tk;split at hc
  ·rename_i kt et ht;cases hk:mkk P kt with
   | none=>rw [hk] at hc; cases hc
   | some mk =>
    rw [hk] at hc; cases hc;obtain ⟨b,ks,vs,bs,ck,r,h1,h2,h3,h4,h5⟩:=h;simp only [bC] at h1 h3 h4 h5;exact sA ht hk h1 h2 h3 h4 h5
  ·cases hc
 ·rename_i t x ty;split at hc
  ·rename_i e ht;cases hc;obtain ⟨k,h1,h2⟩:=h;rw [bC] at h1;exact qh (neg:=false) ht h1 h2
  ·cases hc
 ·rename_i t x ty;split at hc
  ·rename_i e ht;cases hc;obtain ⟨k,h1,h2⟩:=h;rw [bC] at h1;exact qh (neg:=true) ht h1 h2
  ·cases hc
 ·rename_i d s tD tS;split at hc
  ·rename_i e ht;split at hc
   ·rename_i hte;cases hc;obtain ⟨n,H',h1,h2⟩:=h;simp only [bC] at h1;exact xN ht hte h1 h2
   ·cases hc
  ·cases hc
 ·rename_i x t;split at hc
  ·rename_i e ht;split at hc
   ·rename_i z hz;split at hc
    ·rename_i hpos;cases hc;obtain ⟨H',h1,h2⟩:=h;simp only [bC] at h1;exact wz ht hz h1 hpos h2
    ·cases hc
   ·cases hc
  ·cases hc
 ·rename_i s d x
  have tu:∀ {e},kp P e=some .u8→P.underlying e=some (.int .u8):=fun {e} h=>by
   unfold kp at h;split at h
   ·rename_i hu; cases h; exact hu
   ·cases h
  split at hc
  ·rename_i e hs hd;split at hc
   ·rename_i he;cases hc;obtain ⟨bs,h1,h2,h3⟩:=h;rw [bC] at h1;exact AI hs hd (tu he) h1 h2 h3
   ·cases hc
  ·rename_i e hs hd;split at hc
   ·rename_i he;cases hc;obtain ⟨n,bs,h1,h2⟩:=h;rw [bC] at h1;exact AZ hs (tu he) hd h1 h2
   ·cases hc
  ·cases hc
 ·rename_i t m k;split at hc
  ·rename_i kt et ht;split at hc
   ·rename_i mk z hk hz;cases hc;obtain ⟨b,ks,vs,r,h1,h2,h3,h4,h5⟩:=h;simp only [bC] at h1 h3 h4 h5;exact rI ht hk hz h1 h2 h3 h4 h5
   ·cases hc
  ·cases hc
 ·cases hc;obtain ⟨b,ks,vs,i,h1,h2,h3,h4,h5⟩:=h;simp only [bC] at h1 h3 h5;exact oJ h1 h2 h3 h4 h5
 ·rename_i t x;split at hc
  ·rename_i n e hu;split at hc
   ·rename_i hce;cases hc;obtain ⟨b,n',off,cs,h1,h2,h3,h4,h5⟩:=h;rw [bC] at h1;exact zQ hu hce.1 hce.2 h1 h2 h3 h4 h5
   ·cases hc
  ·cases hc
 ·cases hc
end Go.Abs
namespace Go.Abs
open Go.RowKit
structure Op2 where
 d:Option Nat
 g:Option (Nat × Bool)
 i:Ins
inductive C2 where
 | skip
 | ops (m:Nat) (l:List Op2)
 | mix (m:Nat) (l:List Op2) (C:List Nat)
 | mixS (m:Nat) (l:List Op2) (C:List (Nat × Nat))
 | seq (a b:C2)
 | cond (c:Opd) (a b:C2)
 | block (id:Nat) (b:C2)
 | loop (b:C2)
 | exit (id:Nat)
 | ret
 | rangeF (g:Opd) (ps:List Nat) (a b:C2)
inductive IC where
 | val | eff | call | sp
 deriving DecidableEq
def ic:Ins→IC
 | .alloc _ | .box _ | .bldS .. | .mks .. | .st .. | .app .. | .apz ..=>.eff
 | .call ..=>.call
 | .mkm .. | .mput .. | .mdel .. | .mget .. | .mlen _ | .mrng _ | .mnxt _ | .ment _ | .cpy .. | .clr .. | .snil .. | .s2b _ | .b2s _ | .mplc .. | .mpst .. | .slp ..=>.sp
 | _=>.val
def sk (m:Nat) (p:AV):Bool:=match p with | .ptr b _ _=>b < m | _=>true
def v8 (m:Nat) (p:AV):Bool:=match p with | .ptr b _ _=>m ≤ b | _=>true
def dm2 (dm:DM) (T:Tm) (i:Ins):Bool:=match dm with
 | .fresh m=>match i with
  | .ld1 a=>sk m (ov T a)
  | .ldn _ a=>sk m (ov T a)
  | .st _ p _=>v8 m (ov T p)
  | .app ..=>false
  | .apz ..=>false
  | _=>true
 | _=>true
def bQ (P:Program) (dm:DM) (i:Ins) (T:Tm) (H:Hp) (nx:Nat) (K:AV→Hp→Nat→Prop):Prop :=
 match ic i with
 | .val=>bB (dm2 dm T i) (aU (br T H i) fun r=>K r H nx)
 | .eff=>bB (dm2 dm T i) (aU (gd T H nx i) fun x=>K x.1 x.2.1 x.2.2)
 | .call=>match i with
  | .call f args=>(aU (ng (ov T f)) fun y=>match dm.isText with
   | false=>bL P y.1 (args.map (ov T) ++ y.2) H fun r=>K r H nx
   | true=>Fn P y.1 (args.map (ov T) ++ y.2) H nx K) ∨ (dm.isText=true∧((∃ b,ov T f=.yld b∧Yl P b (args.map (ov T)) H nx K) ∨ ∃ g fs,ov T f=.bfn g fs∧Fn P g (fs ++ args.map (ov T)) H nx K))
  | _=>False
 | .sp=>dm.isText=true∧isp i T H nx K
def g2 (T:Tm):Option (Nat × Bool)→Option Bool
 | none=>some true
 | some (t,want)=>match T t with
  | .bool b=>some (b == want)
  | .tup []=>some false
  | _=>none
def av (P:Program) (dm:DM):List Op2→Tm→Hp→Nat→SP→Prop
 | [],T,H,nx,K=>K T H nx
 | o :: l,T,H,nx,K=>bx (g2 T o.g) (bQ P dm o.i T H nx fun r H nx=>av P dm l (aP T o.d r) H nx K) (av P dm l (aP T o.d (.tup [])) H nx K)
def wW (T:Tm):Ins→Option AV
 | .bldS sz len z parts=>tU (gd T bK 0 (.bldS sz len z parts))
 | _=>none
def bt (P:Program) (S:Hp):List (Op2 × Nat)→Tm→Hp→Nat→SP→Prop
 | [],T,H,nx,K=>K T H nx
 | (o,0) :: l,T,H,nx,K=>bx (g2 T o.g) (aU (br T S o.i) fun r=>bt P S l (aP T o.d r) H nx K) (bt P S l (aP T o.d (.tup [])) H nx K)
 | (o,k + 1) :: l,T,H,nx,K=>bx (g2 T o.g) (if k=2 then aU (wW T o.i) fun r=>bt P S l (aP T o.d r) H nx K else bQ P .text o.i T H nx fun r H' nx'=>(k=0→Sub S H')∧bt P S l (aP T o.d r) H' nx' K) (bt P S l (aP T o.d (.tup [])) H nx K)
def aW (P:Program):C2→Tm→Hp→Nat→CP→Prop
 | .skip,T,H,nx,K=>K .normal T H nx
 | .ops m l,T₀,H₀,nx₀,K=>∃ T H nx Hf,Gh T₀ H₀ nx₀ T H nx Hf∧av P (match m with | 0=>.text | 1=>.draw | _=>.fresh nx) l T H nx (K .normal)
 | .mix m l C,T₀,H₀,nx₀,K=>(m ≠ 9∧∃ T H nx Hf,Gh T₀ H₀ nx₀ T H nx Hf∧av P (match m with | 1=>.draw | _=>.fresh nx) l T H nx (K .normal)) ∨
     ∃ T H nx Hf,Gh T₀ H₀ nx₀ T H nx Hf∧av P .text (C.map fun k=>l.getD k ⟨none,none,.dead⟩) T H nx (K .normal)
 | .mixS m l C,T₀,H₀,nx₀,K=>(m ≠ 9∧∃ T H nx Hf,Gh T₀ H₀ nx₀ T H nx Hf∧av P (match m with | 1=>.draw | _=>.fresh nx) l T H nx (K .normal)) ∨
     ∃ T H nx Hf S,Gh T₀ H₀ nx₀ T H nx Hf∧Sub S H∧bt P S (C.map fun k=>(l.getD k.1 ⟨none,none,.dead⟩,k.2)) T H nx (K .normal)
 | .seq x y,T,H,nx,K=>aW P x T H nx fun e T H nx=>bl e (aW P y T H nx K) (K e T H nx)
 | .cond c x y,T,H,nx,K=>bT (ov T c) (aW P x T H nx K) (aW P y T H nx K)
 | .block id b,T,H,nx,K=>aW P b T H nx fun e T H nx=>K (kP id e) T H nx
 | .loop b,T,H,nx,K=>bO (aW P b) T H nx K
 | .exit id,T,H,nx,K=>K (.exit id) T H nx
 | .ret,T,H,nx,K=>K .ret T H nx
 | .rangeF g ps a b,T,H,nx,K=>∃ f caps,ov T g=.func f caps∧∀ (c0:AV) (cj:AEx→AV),
     (∀ (args:List AV) (H':Hp) (nx':Nat) (K':AV→Hp→Nat→Prop),H' nx=some [c0]→args.length=ps.length →
      aW P a (iY T ps args) H' nx' (fun e T2 H2 nx2=>bl e (H2 nx=some [c0]∧aW P b T2 (cw H2 nx) nx2 fun e T3 H3 nx3=>bl e (K' (.bool true) (ao H3 nx [c0]) nx3) (K' (.bool false) (ao H3 nx [cj e]) nx3)) False) →
      Yl P nx args H' nx' K') →
     Fn P f (.yld nx :: caps) (ao H nx [c0]) (nx + 1) fun _ H' nx'=>(H' nx=some [c0]∧K .normal T (cw H' nx) nx') ∨ ∃ e,e ≠ .normal∧H' nx=some [cj e]∧K e T (cw H' nx) nx'
def sG:Op→Option IC
 | .call { callee:=.value _,.. }=>some .call
 | op=>match opk op with
  | .pure | .touch=>some .val
  | .alloc | .write=>some .eff
  | .other=>none
def gO (P:Program) (op:Op):Option Ins:=match sG op with
 | some .call=>match ky op with
  | some (f,args)=>some (.call (.of f) (args.toList.map .of))
  | none=>none
 | some .val=>match gS P op with
  | some i=>if ic i=.val then some i else none
  | none=>none
 | some .eff=>match kJ P op with
  | some i=>if ic i=.eff then some i else none
  | none=>none
 | _=>none
def fK (P:Program) (op:Op):Ins:=match gO P op with
 | some i=>i
 | none=>match wx P op with
  | some i=>if ic i=.sp then i else .dead
  | none=>.dead
def Cr (dsts:List (Option Nat)):Option (Nat × Bool)→Option (Option (Nat × Bool))
 | none=>some none
 | some (j,want)=>match dsts[j]? with
  | some (some d)=>some (some (d,want))
  | _=>none
def wi (P:Program) (N:Nat) (dsts:List (Option Nat)) (o:Oper):Option Op2 :=
 if dok N o.dst then (match Cr dsts o.guard with
  | some g=>some ⟨o.dst,g,fK P o.op⟩
  | none=>none) else none
def nN (P:Program) (N:Nat) (dsts:List (Option Nat)):List Oper→Option (List Op2)
 | []=>some []
 | o :: l=>match wi P N dsts o,nN P N dsts l with
  | some o,some l=>some (o :: l)
  | _,_=>none
def vpP (P:Program) (op:Op):Bool:=B5 op || (opk op == .pure && (gO P op).isSome)
theorem rc (P:Program):VP (vpP P):=⟨fun op h=>by
 unfold vpP at h;rw [md,eL] at h;rcases h with h | h
 ·exact yA h
 ·simpa using h.1,fun op h=>by unfold vpP; rw [h]; rfl⟩
def ud (P:Program) (ops:List Oper):Bool:=ops.any fun o=>opk o.op == .other || (opk o.op == .pure && !vpP P o.op)
def Gm (P:Program) (ops:List Oper):List Nat :=
 let m:=Region.before ops.toArray
 let r:=List.range ops.length
 let sp:=r.filter fun i=>!vpP P (ops.getD i default).op
 let C:=sp.foldl (fun acc s=>acc ++ (r.filter fun i=>vpP P (ops.getD i default).op && !acc.contains i && !sp.any fun q=>fm m i q && !acc.contains q) ++ [s]) []
 C ++ r.filter fun i=>!C.contains i
def Ga (P:Program) (N:Nat) (ops:List Oper):Bool :=
 (ud P ops || ops.any fun o=>sG o.op == some .call) && ve (vpP P) N ops (Gm P ops)
def svP (P:Program) (op:Op):Bool:=sv (vpP P) op
def Eh (P:Program) (ops:List Oper):List Nat :=
 let m:=Region.before ops.toArray
 let r:=List.range ops.length
 let sp:=r.filter fun i=>!svP P (ops.getD i default).op
 let C:=sp.foldl (fun acc s=>acc ++ (r.filter fun i=>svP P (ops.getD i default).op && !acc.contains i && !sp.any fun q=>fm m i q && !acc.contains q) ++ [s]) []
 C ++ r.filter fun i=>!C.contains i
def En (P:Program) (N:Nat) (ops:List Oper):Bool :=
 (ud P ops || (ops.any fun o=>sG o.op == some .call) || !dY false ops) && (ops.all fun o=>!fP o.op || (gO P o.op).isSome) && nS (vpP P) (fun _=>false) N ops (Eh P ops)
def gQ (P:Program) (bp:Op→Bool) (ops:List Oper) (k:Nat):Nat:=if (bp (ops.getD k default).op && gN (ops.getD k default).op)=true then 3 else if svP P (ops.getD k default).op=true then 0 else if gR ops k=true then 1 else 2
def yN (P:Program) (bp:Op→Bool) (ops:List Oper):List Nat :=
 let m:=Region.before ops.toArray
 let r:=List.range ops.length
 let v:=fun i=>svP P (ops.getD i default).op || (bp (ops.getD i default).op && gN (ops.getD i default).op)
 let sp:=r.filter fun i=>!v i
 let C:=sp.foldl (fun acc s=>acc ++ (r.filter fun i=>v i && !acc.contains i && !sp.any fun q=>fm m i q && !acc.contains q) ++ [s]) []
 C ++ r.filter fun i=>!C.contains i
def y4 (P:Program) (bp:Op→Bool) (N:Nat) (ops:List Oper):Bool :=
 (ops.all fun o=>!(fP o.op || (bp o.op && gN o.op)) || (gO P o.op).isSome) && nS (vpP P) bp N ops (yN P bp ops)
def bpA (P:Program) (op:Op):Bool:=match gO P op with
 | some (.bldS 1 _ _ _)=>true
 | _=>false
def DN (P:Program) (N:Nat) (ops:List Oper):Bool :=
 (ops.any fun o=>bpA P o.op) && (ops.any fun o=>gN o.op && !bpA P o.op) && y4 P (bpA P) N ops
def lP (P:Program) (N:Nat):Code→Option C2
 | .skip=>some .skip
 | .label _=>some .skip
 | .region _ ops draw=>match nN P N (ops.toList.map (·.dst)) ops.toList with
  | some l=>if draw=true then (if DN P N ops.toList=true then some (.mixS 9 l ((yN P (bpA P) ops.toList).map fun k=>(k,gQ P (bpA P) ops.toList k))) else if Ga P N ops.toList=true then some (.mix (if ud P ops.toList=true then 9 else if dY false ops.toList=true then 1 else if dY true ops.toList=true then 2 else 9) l (Gm P ops.toList)) else if En P N ops.toList=true then some (.mixS (if ud P ops.toList=true then 9 else if dY false ops.toList=true then 1 else if dY true ops.toList=true then 2 else 9) l ((Eh P ops.toList).map fun k=>(k,gQ P (fun _=>false) ops.toList k))) else if dY false ops.toList=true then some (.ops 1 l) else if dY true ops.toList=true then some (.ops 2 l) else if y4 P (fun _=>true) N ops.toList=true then some (.mixS 9 l ((yN P (fun _=>true) ops.toList).map fun k=>(k,gQ P (fun _=>true) ops.toList k))) else none) else some (.ops 0 l)
  | none=>none
 | .seq a b=>match lP P N a,lP P N b with
  | some a,some b=>some (.seq a b)
  | _,_=>none
 | .cond c a b=>match lP P N a,lP P N b with
  | some a,some b=>some (.cond (.of c) a b)
  | _,_=>none
 | .block id b=>match lP P N b with
  | some b=>some (.block id b)
  | none=>none
 | .loop b=>match lP P N b with
  | some b=>some (.loop b)
  | none=>none
 | .exit id=>some (.exit id)
 | .ret=>some .ret
 | .rangeFunc g ps a b=>if ps.toList.all (fun t=>decide (t < N))=true then (match lP P N a,lP P N b with
  | some a,some b=>some (.rangeF (.of g) ps.toList a b)
  | _,_=>none) else none
 | _=>none
theorem mf {α:Type} {x:Option α} {A B:α→Prop} (hab:∀ a,A a→B a) (h:aU x A):aU x B:=by
 cases x with
 | none=>exact h
 | some a=>exact hab a h
theorem BM {P:Program} {dm:DM} {op:Op} {i:Ins} {T:Tm} (hc:(gS P op=some i∧opk op ≠ .write) ∨ kJ P op=some i) (h:dm2 dm T i=true):qy dm T op=true:=by
 cases dm with
 | text=>rfl
 | draw=>rfl
 | fresh m =>
  rcases hc with ⟨hc,hk⟩ | hc
  ·cases op with
   | load t a =>
    simp only [gS] at hc;split at hc
    ·split at hc
     ·split at hc
      ·cases hc;simp only [dm2,sk,bC] at h;simp only [qy,pJ]; exact h
      ·cases hc
     ·cases hc;simp only [dm2,sk,bC] at h;simp only [qy,pJ]; exact h
    ·cases hc
   | store t p x=>exact absurd rfl hk
   | _=>simpa [qy,pJ] using hk
  ·cases op with
   | store t p x =>
    simp only [kJ] at hc;split at hc
    ·cases hc;simp only [dm2,v8,bC] at h;simp only [qy,pJ]; exact h
    ·cases hc
   | alloc e=>rfl
   | box e x=>rfl
   | buildSlice t len parts=>rfl
   | makeSlice t l c=>rfl
   | call c =>
    obtain ⟨callee,args,argTypes⟩:=c;cases callee with
    | builtin b =>
     obtain ⟨args⟩:=args;obtain ⟨argTypes⟩:=argTypes;cases b with
     | append =>
      rcases args with _ | ⟨x,_ | ⟨y,_ | ⟨z,l⟩⟩⟩
      ·cases hc
      ·cases hc
      ·rcases argTypes with _ | ⟨t,_ | ⟨u,_ | ⟨v,l⟩⟩⟩
       ·cases hc
       ·cases hc
       ·simp only [kJ] at hc;split at hc
        ·cases hc
        ·split at hc
         ·cases hc;cases h
         ·split at hc
          ·split at hc
           ·split at hc
            ·cases hc;cases h
            ·cases hc
           ·cases hc
          ·cases hc
       ·cases hc
      ·cases hc
     | _=>cases hc
    | _=>cases hc
   | _=>cases hc
theorem Dj {P:Program} {dm:DM} {op:Op} {i:Ins} {T:Tm} {H:Hp} {nx:Nat} {K:AV→Hp→Nat→Prop} (hc:gO P op=some i) (h:bQ P dm i T H nx K):pP P dm op T H nx K:=by
 unfold pP;unfold gO at hc;split at hc
 ·rename_i hk;split at hc
  ·rename_i f args hf;cases hc
   have h:(aU (ng (ov T (.of f))) fun y=>match (generalizing:=false) dm.isText with
    | false=>bL P y.1 ((args.toList.map Opd.of).map (ov T) ++ y.2) H fun r=>K r H nx
    | true=>Fn P y.1 ((args.toList.map Opd.of).map (ov T) ++ y.2) H nx K) ∨ (dm.isText=true∧((∃ b,ov T (.of f)=.yld b∧Yl P b ((args.toList.map Opd.of).map (ov T)) H nx K) ∨ ∃ g fs,ov T (.of f)=.bfn g fs∧Fn P g (fs ++ (args.toList.map Opd.of).map (ov T)) H nx K)):=h
   rw [bC,jg] at h;obtain ⟨ts,rfl⟩:=lu hf;rcases h with h | ⟨h1,⟨b,h2,h3⟩ | ⟨g,fs,h2,h3⟩⟩
   ·exact .inl h
   ·exact .inr ⟨h1,vH h2 h3⟩
   ·exact .inr ⟨h1,vo h2 h3⟩
  ·cases hc
 ·rename_i hk;split at hc
  ·rename_i j hj;split at hc
   ·rename_i hic;cases hc
    have hoc:opc op=.val∧opk op ≠ .write:=by
     unfold sG at hk;split at hk
     ·cases hk
     ·rename_i hn;unfold opc;split
      ·rename_i a b c; exact absurd rfl (hn _ _ _)
      ·split at hk <;> rename_i hkk <;> (try rw [hkk]) <;> first | (cases hk; done) | (exact ⟨rfl,by decide⟩)
    unfold bQ at h;rw [hic] at h;simp only at h;left;unfold jh;rw [hoc.1];simp only;refine ⟨BM (.inl ⟨hj,hoc.2⟩) h.1,?_⟩;have h:=h.2;cases hv:br T H i with
    | none=>rw [hv] at h; exact h.elim
    | some r=>rw [tZ hj hv]; rw [hv] at h; exact h
   ·cases hc
  ·cases hc
 ·rename_i hk;split at hc
  ·rename_i j hj;split at hc
   ·rename_i hic;cases hc
    have hoc:opc op=.eff:=by
     unfold sG at hk;split at hk
     ·cases hk
     ·rename_i hn;unfold opc;split
      ·rename_i a b c; exact absurd rfl (hn _ _ _)
      ·split at hk <;> rename_i hkk <;> (try rw [hkk]) <;> cases hk
    unfold bQ at h;rw [hic] at h;simp only at h;left;unfold jh;rw [hoc];simp only;refine ⟨BM (.inr hj) h.1,?_⟩;have h:=h.2;cases hv:gd T H nx i with
    | none=>rw [hv] at h; exact h.elim
    | some r=>rw [y8 hj hv]; rw [hv] at h; exact h
   ·cases hc
  ·cases hc
 ·cases hc
theorem qu {P:Program} {dm:DM} {op:Op} {T:Tm} {H:Hp} {nx:Nat} {K:AV→Hp→Nat→Prop} (h:bQ P dm (fK P op) T H nx K):pP P dm op T H nx K:=by
 unfold fK at h;split at h
 ·rename_i i hi; exact Dj hi h
 ·split at h
  ·rename_i i hi;split at h
   ·rename_i hic;unfold bQ at h;rw [hic] at h;exact .inr ⟨h.1,EP hi h.2⟩
   ·exact h.2.elim
  ·exact h.2.elim
theorem Bp {dsts:List (Option Nat)} {T:Tm} {g:Option (Nat × Bool)} {g':Option (Nat × Bool)} (h:Cr dsts g=some g'):gval T dsts g=g2 T g':=by
 unfold Cr at h;split at h
 ·cases h; rfl
 ·split at h
  ·rename_i d hd;cases h;simp only [gval,hd,g2];generalize T d=v;cases v <;> try rfl
  ·cases h
theorem fQ {P:Program} {N:Nat} {dm:DM} {dsts:List (Option Nat)} {K:SP}:∀ (l:List Oper) (l2:List Op2) {T:Tm} {H:Hp} {nx:Nat},nN P N dsts l=some l2→av P dm l2 T H nx K→od P N dm dsts l T H nx K
 | [],l2,T,H,nx,hc,h=>by cases hc; exact h
 | o :: l,l2,T,H,nx,hc,h=>by
  simp only [nN] at hc;split at hc
  ·rename_i o2 r2 ho hr;cases hc;unfold wi at ho;split at ho
   ·rename_i hd;split at ho
    ·rename_i g hg;cases ho;refine ⟨hd,?_⟩;rw [Bp hg];have h:bx (g2 T g) (bQ P dm (fK P o.op) T H nx fun r H nx=>av P dm r2 (aP T o.dst r) H nx K) (av P dm r2 (aP T o.dst (.tup [])) H nx K):=h;cases hgv:g2 T g with
     | none=>rw [hgv] at h; exact h.elim
     | some b =>
      rw [hgv] at h;cases b with
      | true =>
       have h:bQ P dm (fK P o.op) T H nx fun r H nx=>av P dm r2 (aP T o.dst r) H nx K:=h;exact hU (qu h) (fun r H nx hh=>fQ l r2 hr hh)
      | false=>exact fQ l r2 hr h
    ·cases ho
   ·cases ho
  ·cases hc
theorem B1 {P:Program} {op:Op} {T:Tm} {H:Hp} {nx:Nat} {K:AV→Hp→Nat→Prop} (h:bQ P .text (fK P op) T H nx K):gP (vpP P) P op T H nx K:=by
 unfold gP;split
 ·rename_i hk0;have hk:=(rc P).pure _ hk0
  have hsome:(gO P op).isSome=true:=by
   unfold vpP at hk0;rw [md,eL] at hk0;rcases hk0 with h | h
   ·cases op <;> first | (cases h; done) | rfl
   ·exact h.2
  obtain ⟨i,hi⟩:=Bl.1 hsome;unfold fK at h;rw [hi] at h;have h:bQ P .text i T H nx K:=h;unfold gO at hi
  have hic:sG op=some .val:=by
   unfold sG;split
   ·simp [opk] at hk
   ·rw [hk]
  rw [hic] at hi;simp only at hi;split at hi
  ·rename_i j hj;split at hi
   ·rename_i hc;cases hi;unfold bQ at h;rw [hc] at h;obtain ⟨_,h⟩:=h;obtain ⟨r,hr,hk⟩:=dC h;rw [tZ hj hr]; exact hk
   ·cases hi
  ·cases hi
 ·exact qu h
theorem oH {P:Program} {N:Nat} {dsts:List (Option Nat)}:∀ {l:List Oper} {l2:List Op2},nN P N dsts l=some l2→∀ {k:Nat} {o:Oper},l[k]?=some o→∃ o2,l2[k]?=some o2∧wi P N dsts o=some o2
 | [],l2,h,k,o,ho=>by simp at ho
 | x :: l,l2,h,k,o,ho=>by
  simp only [nN] at h;split at h
  ·rename_i o2 r2 h1 h2;cases h;cases k with
   | zero=>simp at ho; subst ho; exact ⟨o2,rfl,h1⟩
   | succ k =>
    obtain ⟨o3,h3,h4⟩:=oH h2 (k:=k) (o:=o) (by simpa using ho);exact ⟨o3,by simpa using h3,h4⟩
  ·cases h
theorem rW {P:Program} {N:Nat} {ops:List Oper} {l:List Op2} (hl:nN P N (ops.map (·.dst)) ops=some l) {K:SP}:∀ (C:List Nat),(∀ k ∈ C,k < ops.length)→∀ {T:Tm} {H:Hp} {nx:Nat},
    av P .text (C.map fun k=>l.getD k ⟨none,none,.dead⟩) T H nx K→ka (vpP P) P N (ops.map (·.dst)) (C.map fun k=>ops.getD k default) T H nx K
 | [],_,_,_,_,h=>h
 | k :: C,hC,T,H,nx,h=>by
  have hk:=hC k (by simp);obtain ⟨o,ho⟩:=da hk;obtain ⟨o2,ho2,hc⟩:=oH hl ho;have e1:ops.getD k default=o:=dH ho;have e2:l.getD k ⟨none,none,.dead⟩=o2:=by simp [List.getD,ho2]
  rw [gv,e1];rw [gv,e2] at h;unfold wi at hc;split at hc
  ·rename_i hd;split at hc
   ·rename_i g hg;cases hc;refine ⟨hd,?_⟩;rw [Bp hg];have h:bx (g2 T g) (bQ P .text (fK P o.op) T H nx fun r H nx=>av P .text (C.map fun k=>l.getD k ⟨none,none,.dead⟩) (aP T o.dst r) H nx K) (av P .text (C.map fun k=>l.getD k ⟨none,none,.dead⟩) (aP T o.dst (.tup [])) H nx K):=h;cases hgv:g2 T g with
    | none=>rw [hgv] at h; exact h.elim
    | some b =>
     rw [hgv] at h;cases b with
     | true =>
      have h:bQ P .text (fK P o.op) T H nx fun r H nx=>av P .text (C.map fun k=>l.getD k ⟨none,none,.dead⟩) (aP T o.dst r) H nx K:=h;exact my (B1 h) (fun r H nx hh=>rW hl C (fun q hq=>hC q (by simp [hq])) hh)
     | false=>exact rW hl C (fun q hq=>hC q (by simp [hq])) h
   ·cases hc
  ·cases hc
theorem DK {P:Program} {op:Op} {T:Tm} {r:AV} (hb:gN op=true) (hc:(gO P op).isSome=true) (h:wW T (fK P op)=some r):vK P T op=some r:=by
 obtain ⟨i,hi⟩:=Bl.1 hc;have hcd:fK P op=i:=by unfold fK; rw [hi]
 rw [hcd] at h;cases op <;> first | (cases hb; done) | skip
 rename_i t len parts
 have hi2:kJ P (.buildSlice t len parts)=some i:=by
  unfold gO at hi;have:sG (.buildSlice t len parts)=some .eff:=rfl;rw [this] at hi;simp only at hi;split at hi
  ·rename_i j hj;split at hi
   ·cases hi; exact hj
   ·cases hi
  ·cases hi
 unfold vK;rw [if_pos hb];unfold wW at h;split at h
 ·rename_i sz len' z parts';obtain ⟨n,H',k,cs,h1,h2,h3,h4,h5⟩:=pg h;rw [y8 hi2 h1];rw [h1] at h;exact h
 ·cases h
theorem rx {P:Program} {bp:Op→Bool} {N:Nat} {ops:List Oper} {l:List Op2} (hl:nN P N (ops.map (·.dst)) ops=some l) (hld:(ops.all fun o=>!fP o.op || (gO P o.op).isSome)=true) (hbd:(ops.all fun o=>!(bp o.op && gN o.op) || (gO P o.op).isSome)=true) {S:Hp} {K:SP}:∀ (C:List Nat),(∀ k ∈ C,k < ops.length)→∀ {T:Tm} {H:Hp} {nx:Nat},
    bt P S (C.map fun k=>(l.getD k ⟨none,none,.dead⟩,gQ P bp ops k)) T H nx K→iQ (vpP P) bp P N (ops.map (·.dst)) S (C.map (ke ops)) T H nx K
 | [],_,_,_,_,h=>h
 | k :: C,hC,T,H,nx,h=>by
  have hk:=hC k (by simp);obtain ⟨o,ho⟩:=da hk;obtain ⟨o2,ho2,hc⟩:=oH hl ho;have e1:ops.getD k default=o:=dH ho;have e2:l.getD k ⟨none,none,.dead⟩=o2:=by simp [List.getD,ho2]
  have hrec:=fun (T:Tm) (H:Hp) (nx:Nat) hh=>rx hl hld hbd (S:=S) (K:=K) C (fun q hq=>hC q (by simp [hq])) (T:=T) (H:=H) (nx:=nx) hh;rw [gv];rw [gv,e2] at h;have ep:ke ops k=(o,gR ops k):=by unfold ke; rw [e1]
  have ek:gQ P bp ops k=if (bp o.op && gN o.op)=true then 3 else if sv (vpP P) o.op=true then 0 else if gR ops k=true then 1 else 2:=by unfold gQ svP; rw [e1]
  rw [ep];rw [ek] at h;unfold wi at hc;split at hc
  case isFalse=>cases hc
  rename_i hd;split at hc
  case h_2=>cases hc
  rename_i g hg;cases hc;refine ⟨hd,?_⟩;show bx (gval T (ops.map (·.dst)) o.guard) (fu (vpP P) bp P S o.op (gR ops k) T H nx fun r H' nx'=>iQ (vpP P) bp P N (ops.map (·.dst)) S (C.map (ke ops)) (aP T o.dst r) H' nx' K) (iQ (vpP P) bp P N (ops.map (·.dst)) S (C.map (ke ops)) (aP T o.dst (.tup [])) H nx K);rw [Bp hg];by_cases hbl:(bp o.op && gN o.op)=true
  ·rw [if_pos hbl] at h;have h:bx (g2 T g) (aU (wW T (fK P o.op)) fun r=>bt P S (C.map fun k=>(l.getD k ⟨none,none,.dead⟩,gQ P bp ops k)) (aP T o.dst r) H nx K) (bt P S (C.map fun k=>(l.getD k ⟨none,none,.dead⟩,gQ P bp ops k)) (aP T o.dst (.tup [])) H nx K):=h;cases hgv:g2 T g with
   | none=>rw [hgv] at h; exact h.elim
   | some b =>
    rw [hgv] at h;cases b with
    | false=>exact hrec _ _ _ h
    | true =>
     have h:aU (wW T (fK P o.op)) fun r=>bt P S (C.map fun k=>(l.getD k ⟨none,none,.dead⟩,gQ P bp ops k)) (aP T o.dst r) H nx K:=h;show fu (vpP P) bp P S o.op (gR ops k) T H nx _;unfold fu;rw [if_pos (show nv (vpP P) bp o.op=true by unfold nv; rw [hbl,Bool.or_true])];obtain ⟨r,hr,hh⟩:=dC h;rw [eL] at hbl
     have hsome:(gO P o.op).isSome=true:=by
      have:=dL.1 hbd o (fx ho);rw [hbl.1,hbl.2] at this;simpa using this
     unfold qx;rw [if_pos (show (bp o.op && gN o.op)=true by rw [hbl.1,hbl.2]; rfl),DK hbl.2 hsome hr];exact hrec _ _ _ hh
  have hnv:nv (vpP P) bp o.op=sv (vpP P) o.op:=by
   unfold nv;cases hb:(bp o.op && gN o.op) with
   | true=>exact absurd hb hbl
   | false=>rw [Bool.or_false]
  have hnval:qx P bp T S o.op=cR P T S o.op:=by unfold qx; rw [if_neg hbl]
  rw [if_neg hbl] at h;by_cases hs:sv (vpP P) o.op=true
  ·rw [if_pos hs] at h;have h:bx (g2 T g) (aU (br T S (fK P o.op)) fun r=>bt P S (C.map fun k=>(l.getD k ⟨none,none,.dead⟩,gQ P bp ops k)) (aP T o.dst r) H nx K) (bt P S (C.map fun k=>(l.getD k ⟨none,none,.dead⟩,gQ P bp ops k)) (aP T o.dst (.tup [])) H nx K):=h;cases hgv:g2 T g with
   | none=>rw [hgv] at h; exact h.elim
   | some b =>
    rw [hgv] at h;cases b with
    | false=>exact hrec _ _ _ h
    | true =>
     have h:aU (br T S (fK P o.op)) fun r=>bt P S (C.map fun k=>(l.getD k ⟨none,none,.dead⟩,gQ P bp ops k)) (aP T o.dst r) H nx K:=h;show fu (vpP P) bp P S o.op (gR ops k) T H nx _;unfold fu;rw [if_pos (hnv.trans hs),hnval];obtain ⟨r,hr,hh⟩:=dC h
     have hsome:(gO P o.op).isSome=true:=by
      unfold sv at hs;rw [md] at hs;rcases hs with hs | hs
      ·unfold vpP at hs;rw [md,eL] at hs;rcases hs with h | h
       ·revert h; cases o.op <;> intro h <;> first | (cases h; done) | rfl
       ·exact h.2
      ·have:=dL.1 hld o (fx ho);rw [hs] at this;simpa using this
     obtain ⟨i,hi⟩:=Bl.1 hsome;have hcd:fK P o.op=i:=by unfold fK; rw [hi]
     rw [hcd] at hr
     have hic:sG o.op=some .val:=by
      unfold sv at hs;rw [md] at hs;rcases hs with hs | hs
      ·have hk:=(rc P).pure _ hs;unfold sG;split
       ·rename_i heq; rw [heq] at hk; simp [opk] at hk
       ·rw [hk]
      ·revert hs; cases o.op <;> intro hs <;> first | (cases hs; done) | rfl
     unfold gO at hi;rw [hic] at hi;simp only at hi;split at hi
     ·rename_i j hj;split at hi
      ·cases hi;rw [tZ hj hr]; exact hrec _ _ _ hh
      ·cases hi
     ·cases hi
  ·rw [if_neg hs] at h
   obtain ⟨q,hq,hq2,hq3⟩:∃ q,(if gR ops k=true then 1 else 2)=q + 1∧(gR ops k=true→q=0)∧q ≠ 2:=by
    by_cases hkk:gR ops k=true
    ·exact ⟨0,by rw [if_pos hkk],fun _=>rfl,by omega⟩
    ·exact ⟨1,by rw [if_neg hkk],fun h=>absurd h hkk,by omega⟩
   rw [hq] at h;simp only [bt,if_neg hq3] at h;have h:bx (g2 T g) (bQ P .text (fK P o.op) T H nx fun r H' nx'=>(q=0→Sub S H')∧bt P S (C.map fun k=>(l.getD k ⟨none,none,.dead⟩,gQ P bp ops k)) (aP T o.dst r) H' nx' K) (bt P S (C.map fun k=>(l.getD k ⟨none,none,.dead⟩,gQ P bp ops k)) (aP T o.dst (.tup [])) H nx K):=h;cases hgv:g2 T g with
   | none=>rw [hgv] at h; exact h.elim
   | some b =>
    rw [hgv] at h;cases b with
    | false=>exact hrec _ _ _ h
    | true =>
     have h:bQ P .text (fK P o.op) T H nx fun r H' nx'=>(q=0→Sub S H')∧bt P S (C.map fun k=>(l.getD k ⟨none,none,.dead⟩,gQ P bp ops k)) (aP T o.dst r) H' nx' K:=h;show fu (vpP P) bp P S o.op (gR ops k) T H nx _;unfold fu;rw [if_neg (by rw [hnv]; exact hs)];exact hU (qu h) (fun r H nx hh=>⟨fun hkk=>hh.1 (hq2 hkk),hrec _ _ _ hh.2⟩)
theorem zc {P:Program} {bp:Op→Bool} {N:Nat} {rid:Nat} {ops:Array Oper} {l:List Op2} (hl:nN P N (ops.toList.map (·.dst)) ops.toList=some l) (hmx:y4 P bp N ops.toList=true) {T:Tm} {H:Hp} {nx:Nat} {K:CP}
    (h:aW P (.mixS 9 l ((yN P bp ops.toList).map fun k=>(k,gQ P bp ops.toList k))) T H nx K):awp P N (.region rid ops true) T H nx K:=by
 unfold y4 at hmx;rw [eL] at hmx;obtain ⟨hld,hok⟩:=hmx;rcases h with ⟨h9,_⟩ | ⟨T,H,nx,Hf,S,hg,hs,h⟩
 ·exact absurd rfl h9
 ·rw [List.map_map] at h;rw [dL] at hld;refine ⟨T,H,nx,Hf,hg,.inr (.inr ⟨_,bp,_,S,rc P,hok,hs,rx hl ?_ ?_ _ (oL hok).lt h⟩)⟩
  ·rw [dL];intro o ho;have:=hld o ho;cases h1:fP o.op with
   | false=>rfl
   | true=>rw [h1] at this; simpa using this
  ·rw [dL];intro o ho;have:=hld o ho;cases h1:(bp o.op && gN o.op) with
   | false=>rfl
   | true=>rw [h1] at this; simpa using this
theorem gW {P:Program} {N:Nat} (hm:P.follows .mixedOrders=true):∀ (c:Code) (c2:C2) {T:Tm} {H:Hp} {nx:Nat} {K:CP},lP P N c=some c2→aW P c2 T H nx K→awp P N c T H nx K
 | .skip,c2,_,_,_,_,hc,h=>by cases hc; exact h
 | .label _,c2,_,_,_,_,hc,h=>by cases hc; exact h
 | .exit _,c2,_,_,_,_,hc,h=>by cases hc; exact h
 | .ret,c2,_,_,_,_,hc,h=>by cases hc; exact h
 | .region _ ops draw,c2,_,_,_,_,hc,h=>by
  simp only [lP] at hc;split at hc
  ·rename_i l hl;cases draw with
   | true =>
    simp only [if_true] at hc;split at hc
    ·rename_i hmx;cases hc;unfold DN at hmx;rw [eL] at hmx;exact zc hl hmx.2 h
    split at hc
    ·rename_i hmx;cases hc;unfold Ga at hmx;rw [eL] at hmx;obtain ⟨_,hok⟩:=hmx;rcases h with ⟨h9,T,H,nx,Hf,hg,h⟩ | ⟨T,H,nx,Hf,hg,h⟩
     ·refine ⟨T,H,nx,Hf,hg,.inl ?_⟩;split at h9
      ·exact absurd rfl h9
      ·rename_i ho;rw [if_neg ho] at h;split at h9
       ·rename_i hd;rw [if_pos hd] at h ⊢;exact fQ _ _ hl h
       ·rename_i hd;rw [if_neg hd] at h ⊢;split at h9
        ·rename_i hd2;rw [if_pos hd2] at h;exact ⟨hd2,fQ _ _ hl h⟩
        ·exact absurd rfl h9
     ·exact ⟨T,H,nx,Hf,hg,  .inr (.inl ⟨_,_,rc P,hok,rW hl _ (w7 hok).lt h⟩)⟩
    ·split at hc
     ·rename_i hmx;cases hc;unfold En at hmx;rw [eL,eL] at hmx;obtain ⟨⟨_,hld⟩,hok⟩:=hmx;rcases h with ⟨h9,T,H,nx,Hf,hg,h⟩ | ⟨T,H,nx,Hf,S,hg,hs,h⟩
      ·refine ⟨T,H,nx,Hf,hg,.inl ?_⟩;split at h9
       ·exact absurd rfl h9
       ·rename_i ho;rw [if_neg ho] at h;split at h9
        ·rename_i hd;rw [if_pos hd] at h ⊢;exact fQ _ _ hl h
        ·rename_i hd;rw [if_neg hd] at h ⊢;split at h9
         ·rename_i hd2;rw [if_pos hd2] at h;exact ⟨hd2,fQ _ _ hl h⟩
         ·exact absurd rfl h9
      ·rw [List.map_map] at h;exact ⟨T,H,nx,Hf,hg,.inr (.inr ⟨_,fun _=>false,_,S,rc P,hok,hs,rx hl hld (dL.2 fun _ _=>rfl) _ (oL hok).lt h⟩)⟩
     split at hc
     ·rename_i hd;cases hc;obtain ⟨T,H,nx,Hf,hg,h⟩:=h;refine ⟨T,H,nx,Hf,hg,?_⟩;simp only;rw [if_pos hd];exact .inl (fQ _ _ hl h)
     ·rename_i hd;split at hc
      ·rename_i hd2;cases hc;obtain ⟨T,H,nx,Hf,hg,h⟩:=h;refine ⟨T,H,nx,Hf,hg,?_⟩;simp only;rw [if_neg hd];exact .inl ⟨hd2,fQ _ _ hl h⟩
      ·split at hc
       ·rename_i hmx;cases hc;exact zc hl hmx h
       ·cases hc
   | false =>
    simp only [iI,if_false] at hc;cases hc;obtain ⟨T,H,nx,Hf,hg,h⟩:=h;exact ⟨T,H,nx,Hf,hg,fQ _ _ hl h⟩
  ·cases hc
 | .seq a b,c2,_,_,_,K,hc,h=>by
  simp only [lP] at hc;split at hc
  ·rename_i a2 b2 ha hb;cases hc;refine fv a (gW hm a a2 ha h) (fun e T H nx h=>?_);cases e with
   | normal=>exact gW hm b b2 hb h
   | exit i=>exact h
   | ret=>exact h
  ·cases hc
 | .cond c a b,c2,_,_,_,K,hc,h=>by
  simp only [lP] at hc;split at hc
  ·rename_i a2 b2 ha hb;cases hc;simp only [aW,bC] at h;simp only [awp];unfold bT at h ⊢;split at h
   ·exact ⟨fun hh=>gW hm a a2 ha (h.1 hh),fun hh=>gW hm b b2 hb (h.2 hh)⟩
   ·exact h
  ·cases hc
 | .block id b,c2,_,_,_,K,hc,h=>by
  simp only [lP] at hc;split at hc
  ·rename_i b2 hb;cases hc;exact gW hm b b2 hb h
  ·cases hc
 | .loop b,c2,T,H,nx,K,hc,h=>by
  simp only [lP] at hc;split at hc
  ·rename_i b2 hb;cases hc;obtain ⟨n,h⟩:=h;refine ⟨n,?_⟩
   induction n generalizing T H nx with
   | zero=>exact h
   | succ n ih =>
    obtain ⟨T',H',nx',Hf,hg,h⟩:=h;refine ⟨T',H',nx',Hf,hg,fv b (gW hm b b2 hb h) (fun e T H nx h=>?_)⟩;cases e with
    | normal=>exact ih _ _ _ h
    | exit i=>exact h
    | ret=>exact h
  ·cases hc
 | .rangeFunc g ps a b,c2,T,H,nx,K,hc,h=>by
  simp only [lP] at hc;split at hc
  case isFalse=>cases hc
  case isTrue hps =>
  split at hc
  ·rename_i a2 b2 ha hb;cases hc;obtain ⟨f,caps,h1,h2⟩:=h;rw [bC] at h1;show RF P N _ T H nx K;refine GI h1 (fun r hr=>?_);refine h2 (.oloop r T) (tQ r T) (fun args H' nx' K' hH hl hw=>?_);refine Yl.of_awp hr hm (fun t ht=>by simpa using dL.1 hps t ht) hH (by simpa using hl) (fv a (gW hm a a2 ha hw) (fun e T2 H2 nx2 h=>?_));cases e with
   | normal=>exact ⟨h.1,gW hm b b2 hb h.2⟩
   | exit i=>exact h
   | ret=>exact h
  ·cases hc
 | .scope _,_,_,_,_,_,hc,_=>by cases hc
 | .goto _,_,_,_,_,_,hc,_=>by cases hc
 | .refuse _,_,_,_,_,_,hc,_=>by cases hc
inductive RV where
 | t (n:Nat)
 | c1 (n:Nat)
 | cn (n k:Nat)
structure F2 where
 n:Nat
 res:List RV
 body:C2
def jv (P:Program):List ResultVar→Option (List RV)
 | []=>some []
 | .tmp t :: l=>match jv P l with | some l=>some (.t t :: l) | none=>none
 | .cell a t :: l=>if tok P t=true then (match jv P l with
  | some l=>if nz P t=true then (if 0 < P.cellsOf t then some (.cn a (P.cellsOf t) :: l) else none) else some (.c1 a :: l)
  | none=>none) else none
def u9 (P:Program) (fn:Func):Option F2 :=
 match fn.body with
 | some c=>if fn.name == "runtime.NumGoroutine" then none else match lP P fn.ntmps c,jv P fn.results.toList with
  | some b,some r=>some ⟨fn.ntmps,r,b⟩
  | _,_=>none
 | none=>none
def rv (T:Tm) (H:Hp):RV→Option AV
 | .t n=>some (T n)
 | .c1 n=>rd1 H (T n)
 | .cn n k=>(rd H k (T n)).map .agg
def AJ (T:Tm) (H:Hp):List RV→(List AV→Prop)→Prop
 | [],K=>K []
 | a :: l,K=>aU (rv T H a) fun x=>AJ T H l fun xs=>K (x :: xs)
def cK (T:Tm) (H:Hp) (K:AV→Prop):List RV→Prop
 | [a]=>aU (rv T H a) K
 | [a,b]=>aU (rv T H a) fun x=>aU (rv T H b) fun y=>K (.tup [x,y])
 | [a,b,c]=>aU (rv T H a) fun x=>aU (rv T H b) fun y=>aU (rv T H c) fun z=>K (.tup [x,y,z])
 | []=>K (.tup [])
 | a :: b :: c :: d :: l=>AJ T H (a :: b :: c :: d :: l) fun xs=>K (.tup xs)
theorem qA {P:Program} {T:Tm} {H:Hp} {r:ResultVar} {l:List ResultVar} {x:RV} {xs:List RV} {v:AV} (h:jv P (r :: l)=some (x :: xs)) (hv:rv T H x=some v) :
    jv P l=some xs∧kS P T H (r :: l)=(match kS P T H l with | some ys=>some (v :: ys) | none=>none):=by
 cases r with
 | tmp t =>
  simp only [jv] at h;split at h
  ·rename_i ys hy;cases h;cases hv;exact ⟨hy,rfl⟩
  ·cases h
 | cell a t =>
  simp only [jv] at h;split at h
  ·rename_i h1;split at h
   ·rename_i ys hy;split at h
    ·rename_i h2;split at h
     ·rename_i h3;cases h;refine ⟨hy,?_⟩;simp only [rv] at hv;simp only [kS,jq,h1,h2,if_true,if_pos h3,hv];cases kS P T H l <;> rfl
     ·cases h
    ·rename_i h2;cases h;refine ⟨hy,?_⟩;simp only [rv] at hv;simp only [kS,jq,h1,h2,if_true,hv];cases kS P T H l <;> rfl
   ·cases h
  ·cases h
theorem jz {P:Program} {l:List ResultVar} (h:jv P l=some []):l=[]:=by
 cases l with
 | nil=>rfl
 | cons r l =>
  cases r with
  | tmp t=>simp only [jv] at h; split at h <;> cases h
  | cell a t =>
   simp only [jv] at h;split at h
   ·split at h
    ·split at h
     ·split at h <;> cases h
     ·cases h
    ·cases h
   ·cases h
theorem fD {P:Program} {l:List ResultVar} {x:RV} {xs:List RV} (h:jv P l=some (x :: xs)):∃ r l',l=r :: l':=by
 cases l with
 | nil=>cases h
 | cons r l=>exact ⟨r,l,rfl⟩
theorem zg {P:Program} {T:Tm} {H:Hp}:∀ {r:List RV} {l:List ResultVar} {K:List AV→Prop},jv P l=some r→AJ T H r K→∃ xs,kS P T H l=some xs∧xs.length=r.length∧K xs
 | [],l,K,h,hk=>by
  have:=jz h; subst this; exact ⟨[],rfl,rfl,hk⟩
 | a :: r,l,K,h,hk=>by
  obtain ⟨r1,l1,rfl⟩:=fD h;have hk:aU (rv T H a) fun x=>AJ T H r fun xs=>K (x :: xs):=hk;cases hv:rv T H a with
  | none=>rw [hv] at hk; exact hk.elim
  | some v =>
   rw [hv] at hk;obtain ⟨h1,e1⟩:=qA h hv;obtain ⟨xs,h2,h3,h4⟩:=zg h1 hk;exact ⟨v :: xs,by rw [e1,h2],by simp [h3],h4⟩
theorem Dv {P:Program} {T:Tm} {H:Hp} {K:AV→Prop} {l:List ResultVar} {r:List RV} (h:jv P l=some r) (hk:cK T H K r):aU (mT P T H l) K:=by
 have one:∀ {x:RV} {K':AV→Prop},aU (rv T H x) K'→∃ v,rv T H x=some v∧K' v:=by
  intro x K' h;cases hv:rv T H x with
  | none=>rw [hv] at h; exact h.elim
  | some v=>rw [hv] at h; exact ⟨v,rfl,h⟩
 rcases r with _ | ⟨a,_ | ⟨b,_ | ⟨c,_ | ⟨d,r⟩⟩⟩⟩
 ·have:=jz h; subst this; exact hk
 ·obtain ⟨r1,l1,rfl⟩:=fD h;obtain ⟨v,hv,hk⟩:=one hk;obtain ⟨h1,e1⟩:=qA h hv;have:=jz h1; subst this;simp only [mT,e1,kS]; exact hk
 ·obtain ⟨r1,l1,rfl⟩:=fD h;obtain ⟨v,hv,hk⟩:=one hk;obtain ⟨h1,e1⟩:=qA h hv;obtain ⟨r2,l2,rfl⟩:=fD h1;obtain ⟨v2,hv2,hk⟩:=one hk;obtain ⟨h2,e2⟩:=qA h1 hv2;have:=jz h2; subst this;simp only [mT,e1,e2,kS]; exact hk
 ·obtain ⟨r1,l1,rfl⟩:=fD h;obtain ⟨v,hv,hk⟩:=one hk;obtain ⟨h1,e1⟩:=qA h hv;obtain ⟨r2,l2,rfl⟩:=fD h1;obtain ⟨v2,hv2,hk⟩:=one hk;obtain ⟨h2,e2⟩:=qA h1 hv2;obtain ⟨r3,l3,rfl⟩:=fD h2;obtain ⟨v3,hv3,hk⟩:=one hk;obtain ⟨h3,e3⟩:=qA h2 hv3;have:=jz h3; subst this;simp only [mT,e1,e2,e3,kS]; exact hk
 ·have hk:AJ T H (a :: b :: c :: d :: r) fun xs=>K (.tup xs):=hk;obtain ⟨xs,h1,h2,h3⟩:=zg h hk;unfold mT;rw [h1];rcases xs with _ | ⟨x,_ | ⟨y,xs⟩⟩
  ·simp at h2
  ·simp at h2
  ·exact h3
structure Is (P:Program) (f:FuncId) (F:F2):Prop where
 out:∃ fn,P.funcs[f]?=some fn∧u9 P fn=some F
theorem Is.mk' {P:Program} {f:FuncId} {F:F2} {fn:Func} (h1:P.funcs[f]?=some fn) (h2:u9 P fn=some F):Is P f F:=⟨fn,h1,h2⟩
theorem Is.cok {P:Program} {f:FuncId} {F:F2} (h:Is P f F):cok P f=true:=by
 obtain ⟨fn,h1,h2⟩:=h.out;unfold u9 at h2;split at h2
 ·rename_i c hc;split at h2
  ·cases h2
  ·rename_i hn;unfold Go.Abs.cok;simp only [h1,hc,Option.isSome_some,Bool.true_and,Bool.not_eq_true'];simpa using hn
 ·cases h2
theorem Is.bodyOk {P:Program} {f:FuncId} {F:F2} (h:Is P f F) (hm:P.follows .mixedOrders=true) {args:List AV} {H:Hp} {nx:Nat} {K:AV→Hp→Nat→Prop} (hl:args.length ≤ F.n)
    (hb:aW P F.body (T0 args) H nx fun e T H nx=>bB e.ends (cK T H (fun x=>K x H nx) F.res)):∃ fn,P.funcs[f]?=some fn∧ua P fn args H nx K:=by
 obtain ⟨fn,h1,h2⟩:=h.out;refine ⟨fn,h1,?_⟩;unfold u9 at h2;split at h2
 ·rename_i c hc;split at h2
  ·cases h2
  ·split at h2
   ·rename_i b r hb' hr;cases h2;exact ⟨c,hc,hl,fv c (gW hm c b hb' hb) (fun e T H nx hh=>⟨hh.1,Dv hr hh.2⟩)⟩
   ·cases h2
 ·cases h2
theorem Pure.of_c2 {P:Program} {f:FuncId} {F:F2} {args:List AV} {r:AV} (hm:P.follows .mixedOrders=true) (hf:Is P f F) (hl:args.length ≤ F.n)
    (hb:aW P F.body (T0 args) bK 0 fun e T H nx=>bB e.ends (cK T H (fun x=>Snap H x r) F.res)):Pure P f args r:=by
 obtain ⟨fn,h1,h2⟩:=hf.bodyOk hm (K:=fun x H nx=>Snap H x r) hl hb;exact Pure.of_body hm h1 hf.cok h2
theorem Fn.of_c2 {P:Program} {f:FuncId} {F:F2} {args:List AV} {H:Hp} {nx:Nat} {K:AV→Hp→Nat→Prop} (hm:P.follows .mixedOrders=true) (hf:Is P f F) (hl:args.length ≤ F.n)
    (hb:aW P F.body (T0 args) H nx fun e T H nx=>bB e.ends (cK T H (fun x=>K x H nx) F.res)):Fn P f args H nx K:=by
 obtain ⟨fn,h1,h2⟩:=hf.bodyOk hm (K:=K) hl hb;exact Fn.of_body hm h1 hf.cok h2
theorem gV.of_c2 {P:Program} {f:FuncId} {F:F2} {args:List AV} {r:AV} (hm:P.follows .mixedOrders=true) (hf:Is P f F) (hl:args.length ≤ F.n)
    (hb:aW P F.body (T0 args) bK 0 fun e T H nx=>bB e.ends (cK T H (fun x=>SnapF H x r) F.res)):gV P f args r :=
 gV.of_fn (Fn.of_c2 hm hf hl hb)
end Go.Abs
namespace Go.Abs
open Go.RowKit
theorem Cy {i:Ins} {T:Tm} {H:Hp} {nx:Nat} {K K':AV→Hp→Nat→Prop} (h:isp i T H nx K) (hK:∀ r H nx,K r H nx→K' r H nx):isp i T H nx K':=by
 cases i <;> first | exact h | skip
 ·exact ⟨h.1,h.2.imp (hK _ _ _) (hK _ _ _)⟩
 ·rcases h with ⟨b,ks,vs,r,h1,h2,h3,h4,h5⟩ | ⟨b,ks,vs,bs,ck,r,h1,h2,h3,h4,h5⟩
  ·exact .inl ⟨b,ks,vs,r,h1,h2,h3,h4,hK _ _ _ h5⟩
  ·exact .inr ⟨b,ks,vs,bs,ck,r,h1,h2,h3,h4,hK _ _ _ h5⟩
 ·obtain ⟨b,ks,vs,bs,ck,r,h1,h2,h3,h4,h5⟩:=h; exact ⟨b,ks,vs,bs,ck,r,h1,h2,h3,h4,hK _ _ _ h5⟩
 ·rcases h with ⟨b,ks,vs,r,h1,h2,h3,h4,h5⟩ | ⟨b,ks,vs,bs,ck,r,h1,h2,h3,h4,h5⟩
  ·exact .inl ⟨b,ks,vs,r,h1,h2,h3,h4,hK _ _ _ h5⟩
  ·exact .inr ⟨b,ks,vs,bs,ck,r,h1,h2,h3,h4,hK _ _ _ h5⟩
 ·rcases h with ⟨b,ks,vs,h1,h2,h3⟩ | ⟨b,ks,vs,bs,ck,h1,h2,h3⟩
  ·exact .inl ⟨b,ks,vs,h1,h2,hK _ _ _ h3⟩
  ·exact .inr ⟨b,ks,vs,bs,ck,h1,h2,hK _ _ _ h3⟩
 ·rcases h with ⟨b,ks,vs,h1,h2,h3⟩ | ⟨b,ks,vs,bs,ck,h1,h2,h3⟩
  ·exact .inl ⟨b,ks,vs,h1,h2,hK _ _ _ h3⟩
  ·exact .inr ⟨b,ks,vs,bs,ck,h1,h2,hK _ _ _ h3⟩
 ·rcases h with ⟨b,m,n0,seen,ks,vs,h1,h2,h3,hn,h4,h5⟩ | ⟨b,m,ck,seen,ks,vs,bs,h1,h2,h3,h4,h5⟩
  ·exact .inl ⟨b,m,n0,seen,ks,vs,h1,h2,h3,hn,fun i hi hs=>hK _ _ _ (h4 i hi hs),fun h=>hK _ _ _ (h5 h)⟩
  ·exact .inr ⟨b,m,ck,seen,ks,vs,bs,h1,h2,h3,fun i s hi hs=>hK _ _ _ (h4 i s hi hs),fun h=>hK _ _ _ (h5 h)⟩
 ·rcases h with ⟨b,m,n0,i,seen,ks,vs,h1,h2,h3,h4,h5,h6,h7⟩ | ⟨b,m,ck,i,s,seen,ks,vs,bs,h1,h2,h3,h5,h6,h7⟩
  ·exact .inl ⟨b,m,n0,i,seen,ks,vs,h1,h2,h3,h4,h5,h6,hK _ _ _ h7⟩
  ·exact .inr ⟨b,m,ck,i,s,seen,ks,vs,bs,h1,h2,h3,h5,h6,hK _ _ _ h7⟩
 ·obtain ⟨n,H',h1,h2⟩:=h; exact ⟨n,H',h1,hK _ _ _ h2⟩
 ·obtain ⟨H',h1,h2⟩:=h; exact ⟨H',h1,hK _ _ _ h2⟩
 ·obtain ⟨b,n,off,cs,h1,h2,h3,h4,h5⟩:=h; exact ⟨b,n,off,cs,h1,h2,h3,h4,hK _ _ _ h5⟩
 ·obtain ⟨k,h1,h2⟩:=h; exact ⟨k,h1,fun h=>hK _ _ _ (h2.1 h),fun h=>⟨hK _ _ _ (h2.2 h).1,hK _ _ _ (h2.2 h).2⟩⟩
 ·obtain ⟨bs,h1,h2,h3⟩:=h; exact ⟨bs,h1,fun h=>hK _ _ _ (h2 h),fun h=>hK _ _ _ (h3 h)⟩
 ·obtain ⟨n,bs,h1,h2⟩:=h; exact ⟨n,bs,h1,hK _ _ _ h2⟩
 ·obtain ⟨b,ks,vs,r,h1,h2,h3,h4,h5⟩:=h; exact ⟨b,ks,vs,r,h1,h2,h3,h4,hK _ _ _ h5⟩
 ·obtain ⟨b,ks,vs,i,h1,h2,h3,h4,h5⟩:=h; exact ⟨b,ks,vs,i,h1,h2,h3,h4,hK _ _ _ h5⟩
theorem lF {P:Program} {dm:DM} {i:Ins} {T:Tm} {H:Hp} {nx:Nat} {K K':AV→Hp→Nat→Prop} (h:bQ P dm i T H nx K) (hK:∀ r H nx,K r H nx→K' r H nx):bQ P dm i T H nx K':=by
 unfold bQ at h ⊢;split at h
 ·exact ⟨h.1,mf (fun a=>hK _ _ _) h.2⟩
 ·exact ⟨h.1,mf (fun a=>hK _ _ _) h.2⟩
 ·split at h
  ·rcases h with h | ⟨h1,⟨b,h2,h3⟩ | ⟨g,fs,h2,h3⟩⟩
   ·left;refine mf (fun b=>?_) h;intro h;cases hd:dm.isText with
    | false=>rw [hd] at h; obtain ⟨r,h1,h3⟩:=h; exact ⟨r,h1,hK _ _ _ h3⟩
    | true=>rw [hd] at h; exact Fn.mono h hK
   ·exact .inr ⟨h1,.inl ⟨b,h2,h3.mono hK⟩⟩
   ·exact .inr ⟨h1,.inr ⟨g,fs,h2,h3.mono hK⟩⟩
  ·exact h
 ·exact ⟨h.1,Cy h.2 hK⟩
theorem gl {P:Program} {dm:DM} {K K':SP} (hK:∀ T H nx,K T H nx→K' T H nx):∀ (l:List Op2) {T:Tm} {H:Hp} {nx:Nat},av P dm l T H nx K→av P dm l T H nx K'
 | [],_,_,_,h=>hK _ _ _ h
 | o :: l,T,H,nx,h=>by
  have h:bx (g2 T o.g) (bQ P dm o.i T H nx fun r H nx=>av P dm l (aP T o.d r) H nx K) (av P dm l (aP T o.d (.tup [])) H nx K):=h;show bx (g2 T o.g) (bQ P dm o.i T H nx fun r H nx=>av P dm l (aP T o.d r) H nx K') (av P dm l (aP T o.d (.tup [])) H nx K');cases hg:g2 T o.g with
  | none=>rw [hg] at h; exact h.elim
  | some b =>
   rw [hg] at h;cases b with
   | true =>
    have h:bQ P dm o.i T H nx fun r H nx=>av P dm l (aP T o.d r) H nx K:=h;exact lF h (fun _ _ _ hh=>gl hK l hh)
   | false=>exact gl hK l h
theorem fH {P:Program} {S:Hp} {K K':SP} (hK:∀ T H nx,K T H nx→K' T H nx):∀ (l:List (Op2 × Nat)) {T:Tm} {H:Hp} {nx:Nat},bt P S l T H nx K→bt P S l T H nx K'
 | [],_,_,_,h=>hK _ _ _ h
 | (o,0) :: l,T,H,nx,h=>by
  simp only [bt] at h ⊢;cases hg:g2 T o.g with
  | none=>rw [hg] at h; exact h.elim
  | some b =>
   rw [hg] at h;cases b with
   | true =>
    have h:aU (br T S o.i) fun r=>bt P S l (aP T o.d r) H nx K:=h;show aU (br T S o.i) fun r=>bt P S l (aP T o.d r) H nx K';obtain ⟨r,hr,hh⟩:=dC h;rw [hr]; exact fH hK l hh
   | false=>exact fH hK l h
 | (o,k + 1) :: l,T,H,nx,h=>by
  simp only [bt] at h ⊢;cases hg:g2 T o.g with
  | none=>rw [hg] at h; exact h.elim
  | some b =>
   rw [hg] at h;cases b with
   | true =>
    have h:if k=2 then aU (wW T o.i) fun r=>bt P S l (aP T o.d r) H nx K else bQ P .text o.i T H nx fun r H' nx'=>(k=0→Sub S H')∧bt P S l (aP T o.d r) H' nx' K:=h
    show if k=2 then aU (wW T o.i) fun r=>bt P S l (aP T o.d r) H nx K' else bQ P .text o.i T H nx fun r H' nx'=>(k=0→Sub S H')∧bt P S l (aP T o.d r) H' nx' K'
    split
    ·rename_i hk;rw [if_pos hk] at h;obtain ⟨r,hr,hh⟩:=dC h;rw [hr]; exact fH hK l hh
    ·rename_i hk;rw [if_neg hk] at h;exact lF h (fun _ _ _ hh=>⟨hh.1,fH hK l hh.2⟩)
   | false=>exact fH hK l h
theorem dM {P:Program}:∀ (c:C2) {T:Tm} {H:Hp} {nx:Nat} {K K':CP},aW P c T H nx K→(∀ e T H nx,K e T H nx→K' e T H nx)→aW P c T H nx K'
 | .skip,_,_,_,_,_,h,hK=>hK _ _ _ _ h
 | .exit _,_,_,_,_,_,h,hK=>hK _ _ _ _ h
 | .ret,_,_,_,_,_,h,hK=>hK _ _ _ _ h
 | .ops m l,_,_,_,_,_,h,hK=>let ⟨T,H,nx,Hf,hg,h⟩:=h; ⟨T,H,nx,Hf,hg,gl (hK .normal) l h⟩
 | .mix m l C,_,_,_,_,_,h,hK=>h.imp (fun ⟨h9,T,H,nx,Hf,hg,h⟩=>⟨h9,T,H,nx,Hf,hg,gl (hK .normal) l h⟩) (fun ⟨T,H,nx,Hf,hg,h⟩=>⟨T,H,nx,Hf,hg,gl (hK .normal) _ h⟩)
 | .mixS m l C,_,_,_,_,_,h,hK=>h.imp (fun ⟨h9,T,H,nx,Hf,hg,h⟩=>⟨h9,T,H,nx,Hf,hg,gl (hK .normal) l h⟩) (fun ⟨T,H,nx,Hf,S,hg,hs,h⟩=>⟨T,H,nx,Hf,S,hg,hs,fH (hK .normal) _ h⟩)
 | .seq x y,_,_,_,K,K',h,hK=>by
  refine dM x h (fun e T H nx h=>?_);cases e with
  | normal=>exact dM y h hK
  | exit i=>exact hK _ _ _ _ h
  | ret=>exact hK _ _ _ _ h
 | .cond c x y,T,H,nx,K,K',h,hK=>by
  simp only [aW] at h ⊢;unfold bT at h ⊢;split at h
  ·exact ⟨fun hb=>dM x (h.1 hb) hK,fun hb=>dM y (h.2 hb) hK⟩
  ·exact h
 | .block id b,_,_,_,_,_,h,hK=>dM b h (fun e T H nx h=>hK _ _ _ _ h)
 | .loop b,T,H,nx,K,K',h,hK=>by
  obtain ⟨n,h⟩:=h;refine ⟨n,?_⟩
  induction n generalizing T H nx with
  | zero=>exact h
  | succ n ih =>
   obtain ⟨T',H',nx',Hf,hw,h⟩:=h;refine ⟨T',H',nx',Hf,hw,dM b h (fun e T H nx h=>?_)⟩;cases e with
   | normal=>exact ih _ _ _ h
   | exit i=>exact hK _ _ _ _ h
   | ret=>exact hK _ _ _ _ h
 | .rangeF g ps a b,T,H,nx,K,K',h,hK=>by
  obtain ⟨f,caps,h1,h2⟩:=h;refine ⟨f,caps,h1,fun c0 cj hy=>Fn.mono (h2 c0 cj hy) ?_⟩;rintro r H' nx' (⟨k1,k2⟩ | ⟨e,k1,k2,k3⟩)
  ·exact .inl ⟨k1,hK _ _ _ _ k2⟩
  ·exact .inr ⟨e,k1,k2,hK _ _ _ _ k3⟩
theorem Bw {P:Program} {b:C2} {T:Tm} {H:Hp} {nx:Nat} {K:CP} {X:Type} (TT:X→Tm) (HH:X→Hp) (NX:X→Nat) (φ:X→Prop) (μ:X→Nat)
    (start:∃ x,φ x∧∃ Hf,Gh T H nx (TT x) (HH x) (NX x) Hf)
    (step:∀ x,φ x→aW P b (TT x) (HH x) (NX x) fun e T H nx=>bl e (∃ y,φ y∧μ y < μ x∧∃ Hf,Gh T H nx (TT y) (HH y) (NX y) Hf) (K e T H nx)):bO (aW P b) T H nx K:=by
 have key:∀ n x T H nx,μ x < n→φ x→(∃ Hf,Gh T H nx (TT x) (HH x) (NX x) Hf)→pe (aW P b) K n T H nx:=by
  intro n
  induction n with
  | zero=>intro x T H nx h; omega
  | succ n ih =>
   intro x T H nx hn hx ⟨Hf,hg⟩;refine ⟨_,_,_,Hf,hg,dM b (step x hx) (fun e T H nx h=>?_)⟩;cases e with
   | normal =>
    obtain ⟨y,h1,h2,h3⟩:=h;exact ih y T H nx (by omega) h1 h3
   | exit i=>exact h
   | ret=>exact h
 obtain ⟨x,hx,hg⟩:=start;exact ⟨_,key _ x T H nx (uw _) hx hg⟩
def tl:List (Nat × AV)→Tm
 | [],_=>.undef
 | (d,v) :: l,t=>if t=d then v else tl l t
def agr (T:Tm):List (Nat × AV)→Prop
 | []=>True
 | (d,v) :: l=>T d=v∧agr T l
theorem ry {T:Tm}:∀ {l:List (Nat × AV)},agr T l→∀ t,tl l t=.undef ∨ tl l t=T t
 | [],_,t=>.inl rfl
 | (d,v) :: l,h,t=>by
  simp only [tl];split
  ·rename_i e; subst e; exact .inr h.1.symm
  ·exact ry h.2 t
theorem Gh.weak {T T':Tm} {H:Hp} {nx:Nat} (h:∀ t,T' t=.undef ∨ T' t=T t):Gh T H nx T' H nx bK :=
 ⟨fun _ _ h=>(by cases h),aO _,fun b cs h=>.inl ⟨cs,h,rfl,rfl,fun i x x' h1 h2=>.inl (by rw [h1] at h2; cases h2; rfl)⟩,fun t=>(h t).imp id .inl⟩
theorem pD {P:Program} {b:C2} {T:Tm} {H:Hp} {nx:Nat} {K:CP} {X:Type} (L:X→List (Nat × AV)) (φ:X→Prop) (μ:X→Nat) (x0:X)
    (h0:φ x0) (hT:agr T (L x0))
    (step:∀ x,φ x→aW P b (tl (L x)) H nx fun e T H' nx'=>bl e (∃ y,φ y∧μ y < μ x∧agr T (L y)∧H'=H∧nx'=nx) (K e T H' nx')):bO (aW P b) T H nx K:=by
 refine Bw (fun x=>tl (L x)) (fun _=>H) (fun _=>nx) φ μ ⟨x0,h0,_,Gh.weak (ry hT)⟩ (fun x hx=>dM b (step x hx) (fun e T H' nx' h=>?_));cases e with
 | normal =>
  obtain ⟨y,h1,h2,h3,rfl,rfl⟩:=h;exact ⟨y,h1,h2,_,Gh.weak (ry h3)⟩
 | exit i=>exact h
 | ret=>exact h
@[congr] theorem aloop_congr {b:Tm→Hp→Nat→CP→Prop} {T:Tm} {H:Hp} {nx nx':Nat} {K:CP} (h:nx=nx'):bO b T H nx K=bO b T H nx' K:=by rw [h]
@[congr] theorem awp2_congr {P P':Program} {c:C2} {T:Tm} {H:Hp} {nx:Nat} {K:CP} (h:P=P'):aW P c T H nx K=aW P' c T H nx K:=by rw [h]
@[congr] theorem aops2_congr {P P':Program} {dm:DM} {l:List Op2} {T:Tm} {H:Hp} {nx:Nat} {K:SP} (h:P=P'):av P dm l T H nx K=av P' dm l T H nx K:=by rw [h]
@[congr] theorem ains_congr {P P':Program} {dm:DM} {i:Ins} {T:Tm} {H:Hp} {nx:Nat} {K:AV→Hp→Nat→Prop} (h:P=P'):bQ P dm i T H nx K=bQ P' dm i T H nx K:=by rw [h]
theorem DA {k:IntKind} {a b:Int} {tb tf:Bool}:bf .lss tb tf (.int k a) (.int k b)=some (.bool (decide (a < b))):=by simp [bf,eG]
theorem Dx {k:IntKind} {a b:Int} {tb tf:Bool}:bf .leq tb tf (.int k a) (.int k b)=some (.bool (decide (a ≤ b))):=by simp [bf,eG]
theorem C6 {k:IntKind} {a b:Int} {tb tf:Bool}:bf .gtr tb tf (.int k a) (.int k b)=some (.bool (decide (a > b))):=by simp [bf,eG]
theorem DD {k:IntKind} {a b:Int} {tb tf:Bool}:bf .geq tb tf (.int k a) (.int k b)=some (.bool (decide (a ≥ b))):=by simp [bf,eG]
theorem Dn {k:IntKind} {a b:Int} {tb tf:Bool}:bf .eql tb tf (.int k a) (.int k b)=some (.bool (decide (a=b))):=by
 simp only [bf,eG]; simp; by_cases h:a=b <;> simp [h]
theorem CX {k:IntKind} {a b:Int} {tb tf:Bool}:bf .neq tb tf (.int k a) (.int k b)=some (.bool (decide (a ≠ b))):=by
 simp [bf,eG,bne]; rfl
theorem Dl {k:IntKind} {a b:Int} {tb tf:Bool}:bf .add tb tf (.int k a) (.int k b)=some (.int k (k.wrap (a + b))):=by simp [bf,eG]
theorem Dw {k:IntKind} {a b:Int} {tb tf:Bool}:bf .sub tb tf (.int k a) (.int k b)=some (.int k (k.wrap (a - b))):=by simp [bf,eG]
theorem Da {k:IntKind} {a b:Int} {tb tf:Bool}:bf .mul tb tf (.int k a) (.int k b)=some (.int k (k.wrap (a * b))):=by simp [bf,eG]
theorem oO {a:Int} (h1:-9223372036854775808 ≤ a) (h2:a ≤ 9223372036854775807):IntKind.wrap .i64 a=a:=by
 rw [IntKind.wrap_i64]; omega
end Go.Abs
namespace Go.Abs
open Go.RowKit
variable {P:Program} {T:Tm} {H:Hp} {nx:Nat}
theorem E8 {K:CP} (h:K .normal T H nx):aW P .skip T H nx K:=h
theorem Fi {K:CP} {i:Nat} (h:K (.exit i) T H nx):aW P (.exit i) T H nx K:=h
theorem G8 {K:CP} (h:K .ret T H nx):aW P .ret T H nx K:=h
theorem EZ {K:CP} {l:List Op2} (h:av P .text l T H nx fun T H nx=>K .normal T H nx):aW P (.ops 0 l) T H nx K:=⟨T,H,nx,_,Gh.refl _ _ _,h⟩
theorem ot {K:CP} {l:List Op2} {C:List Nat} (h:av P .draw l T H nx fun T H nx=>K .normal T H nx):aW P (.mix 1 l C) T H nx K:=.inl ⟨by decide,T,H,nx,_,Gh.refl _ _ _,h⟩
theorem nW {K:CP} {l:List Op2} {C:List Nat} (h:av P (.fresh nx) l T H nx fun T H nx=>K .normal T H nx):aW P (.mix 2 l C) T H nx K:=.inl ⟨by decide,T,H,nx,_,Gh.refl _ _ _,h⟩
theorem De {K:CP} {l:List Op2} {C:List (Nat × Nat)} (h:av P .draw l T H nx fun T H nx=>K .normal T H nx):aW P (.mixS 1 l C) T H nx K:=.inl ⟨by decide,T,H,nx,_,Gh.refl _ _ _,h⟩
theorem CW {K:CP} {l:List Op2} {C:List (Nat × Nat)} (h:av P (.fresh nx) l T H nx fun T H nx=>K .normal T H nx):aW P (.mixS 2 l C) T H nx K:=.inl ⟨by decide,T,H,nx,_,Gh.refl _ _ _,h⟩
theorem xZ (S:Hp) {K:CP} {m:Nat} {l:List Op2} {alt:List (Op2 × Nat)} {C:List (Nat × Nat)} (ha:(C.map fun k=>(l.getD k.1 ⟨none,none,.dead⟩,k.2))=alt) (hs:Sub S H) (h:bt P S alt T H nx fun T H nx=>K .normal T H nx):aW P (.mixS m l C) T H nx K:=by
 subst ha;exact .inr ⟨T,H,nx,_,S,Gh.refl _ _ _,hs,h⟩
theorem DV {S:Hp} {K:SP} (h:K T H nx):bt P S [] T H nx K:=h
theorem GQ {S:Hp} {K:SP} {l:List (Op2 × Nat)} {d:Option Nat} {i:Ins} {r:AV} (h:br T S i=some r) (k:bt P S l (aP T d r) H nx K):bt P S ((⟨d,none,i⟩,0) :: l) T H nx K:=by
 show aU (br T S i) fun r=>bt P S l (aP T d r) H nx K;rw [h]; exact k
theorem ir {S:Hp} {K:SP} {l:List (Op2 × Nat)} {d:Option Nat} {i:Ins} (k:av P .text [⟨d,none,i⟩] T H nx fun T H nx=>Sub S H∧bt P S l T H nx K):bt P S ((⟨d,none,i⟩,1) :: l) T H nx K:=by
 have k:bQ P .text i T H nx fun r H nx=>Sub S H∧bt P S l (aP T d r) H nx K:=k;show bQ P .text i T H nx fun r H' nx'=>(0=0→Sub S H')∧bt P S l (aP T d r) H' nx' K;exact lF k (fun _ _ _ h=>⟨fun _=>h.1,h.2⟩)
theorem jY {S:Hp} {K:SP} {l:List (Op2 × Nat)} {d:Option Nat} {i:Ins} (k:av P .text [⟨d,none,i⟩] T H nx fun T H nx=>bt P S l T H nx K):bt P S ((⟨d,none,i⟩,2) :: l) T H nx K:=by
 have k:bQ P .text i T H nx fun r H nx=>bt P S l (aP T d r) H nx K:=k;show bQ P .text i T H nx fun r H' nx'=>(1=0→Sub S H')∧bt P S l (aP T d r) H' nx' K;exact lF k (fun _ _ _ h=>⟨fun hh=>absurd hh (by decide),h⟩)
theorem FS {K:CP} {l:List Op2} (h:av P .draw l T H nx fun T H nx=>K .normal T H nx):aW P (.ops 1 l) T H nx K:=⟨T,H,nx,_,Gh.refl _ _ _,h⟩
theorem EM {K:CP} {l:List Op2} (h:av P (.fresh nx) l T H nx fun T H nx=>K .normal T H nx):aW P (.ops 2 l) T H nx K:=⟨T,H,nx,_,Gh.refl _ _ _,h⟩
theorem ef {K:CP} {x y:C2} (h:aW P x T H nx fun e T H nx=>bl e (aW P y T H nx K) (K e T H nx)):aW P (.seq x y) T H nx K:=h
theorem ff {K:CP} {i:Nat} {b:C2} (h:aW P b T H nx fun e T H nx=>K (kP i e) T H nx):aW P (.block i b) T H nx K:=h
theorem xJ {K:CP} {c:Opd} {x y:C2} {b:Bool} (hc:ov T c=.bool b) (h1:b=true→aW P x T H nx K) (h2:b=false→aW P y T H nx K):aW P (.cond c x y) T H nx K:=by
 simp only [aW,hc]; exact ⟨h1,h2⟩
theorem uB {K:CP} {c:Opd} {x y:C2} (hc:ov T c=.bool true) (h1:aW P x T H nx K):aW P (.cond c x y) T H nx K :=
 xJ hc (fun _=>h1) (fun h=>by cases h)
theorem uP {K:CP} {c:Opd} {x y:C2} (hc:ov T c=.bool false) (h2:aW P y T H nx K):aW P (.cond c x y) T H nx K :=
 xJ hc (fun h=>by cases h) (fun _=>h2)
theorem E9 {K:CP} {b:C2} (h:bO (aW P b) T H nx K):aW P (.loop b) T H nx K:=h
theorem a_n {A B:Prop} (h:A):bl .normal A B:=h
theorem a_x {A B:Prop} {i:Nat} (h:B):bl (.exit i) A B:=h
theorem a_r {A B:Prop} (h:B):bl .ret A B:=h
theorem px {dm:DM} {K:SP} (h:K T H nx):av P dm [] T H nx K:=h
theorem lZ {dm:DM} {K:SP} {l:List Op2} {d:Option Nat} {i:Ins} {r:AV} (hi:ic i=.val) (hd:dm2 dm T i=true) (h:br T H i=some r) (k:av P dm l (aP T d r) H nx K):av P dm (⟨d,none,i⟩ :: l) T H nx K:=by
 show bQ P dm i T H nx fun r H nx=>av P dm l (aP T d r) H nx K;unfold bQ; rw [hi]; exact ⟨hd,by rw [h]; exact k⟩
theorem l9 {dm:DM} {K:SP} {l:List Op2} {d:Option Nat} {i:Ins} {r:AV} {H':Hp} {nx':Nat} (hi:ic i=.eff) (hd:dm2 dm T i=true) (h:gd T H nx i=some (r,H',nx')) (k:av P dm l (aP T d r) H' nx' K):av P dm (⟨d,none,i⟩ :: l) T H nx K:=by
 show bQ P dm i T H nx fun r H nx=>av P dm l (aP T d r) H nx K;unfold bQ; rw [hi]; exact ⟨hd,by rw [h]; exact k⟩
theorem yg {K:SP} {l:List Op2} {d:Option Nat} {f:Opd} {args:List Opd} {g:FuncId} {caps:List AV} (hf:ov T f=.func g caps) (k:Fn P g (args.map (ov T) ++ caps) H nx fun r H nx=>av P .text l (aP T d r) H nx K) :
    av P .text (⟨d,none,.call f args⟩ :: l) T H nx K:=by
 left;show aU (ng (ov T f)) _;rw [hf]; exact k
theorem zj {dm:DM} (hdm:dm.isText=false) {K:SP} {l:List Op2} {d:Option Nat} {f:Opd} {args:List Opd} {g:FuncId} {caps:List AV} (hf:ov T f=.func g caps) (k:bL P g (args.map (ov T) ++ caps) H fun r=>av P dm l (aP T d r) H nx K) :
    av P dm (⟨d,none,.call f args⟩ :: l) T H nx K:=by
 left;show aU (ng (ov T f)) _;rw [hf];show (match dm.isText with | false=>_ | true=>_);rw [hdm];exact k
theorem uM {K:SP} {l:List Op2} {d:Option Nat} {f:Opd} {args:List Opd} {b:Nat} {xs:List AV} (hf:ov T f=.yld b) (ha:args.map (ov T)=xs) (k:Yl P b xs H nx fun r H nx=>av P .text l (aP T d r) H nx K) :
    av P .text (⟨d,none,.call f args⟩ :: l) T H nx K:=by
 right;exact ⟨rfl,.inl ⟨b,hf,by rw [ha]; exact k⟩⟩
theorem tP {K:SP} {l:List Op2} {d:Option Nat} {i:Ins} (hi:ic i=.sp) (k:isp i T H nx fun r H nx=>av P .text l (aP T d r) H nx K):av P .text (⟨d,none,i⟩ :: l) T H nx K:=by
 show bQ P .text i T H nx fun r H nx=>av P .text l (aP T d r) H nx K;unfold bQ; rw [hi]; exact ⟨rfl,k⟩
theorem Bq {K:SP} {l:List Op2} {d:Option Nat} (k:av P .text l (aP T d (.mp nx)) (ao H nx [.omap [] []]) (nx + 1) K):av P .text (⟨d,none,.mkm none⟩ :: l) T H nx K:=tP rfl ⟨.inl rfl,.inl k⟩
theorem A9 {K:SP} {l:List Op2} {d:Option Nat} {kk:MK} {m key x:Opd} {b:Nat} {ks vs:List AV} {kv xv:AV} {r:Option Nat} (hm:ov T m=.mp b) (hb:H b=some [.omap ks vs]) (hk:ov T key=kv) (hx:ov T x=xv) (hfit:i6 kk kv=true) (hr:dv kk kv ks=some r)
    (k:av P .text l (aP T d (.tup [])) (ao H b [.omap (cI kv r ks) (fU xv r vs)]) nx K):av P .text (⟨d,none,.mput kk m key x⟩ :: l) T H nx K:=by
 subst hk hx;exact tP rfl (.inl ⟨b,ks,vs,r,hm,hb,hfit,hr,k⟩)
theorem kF {K:SP} {l:List Op2} {d:Option Nat} {kk:MK} {z:AV} {ok:Bool} {m key:Opd} {b:Nat} {ks vs:List AV} {kv:AV} {r:Option Nat} (hm:ov T m=.mp b) (hb:H b=some [.omap ks vs]) (hk:ov T key=kv) (hfit:i6 kk kv=true) (hr:dv kk kv ks=some r)
    (k:av P .text l (aP T d (mget z ok r vs)) H nx K):av P .text (⟨d,none,.mget kk z ok m key⟩ :: l) T H nx K:=by
 subst hk;exact tP rfl (.inl ⟨b,ks,vs,r,hm,hb,hfit,hr,k⟩)
theorem Cl {K:SP} {l:List Op2} {d:Option Nat} {kk:MK} {z:AV} {m key:Opd} {b:Nat} {ks vs:List AV} {kv:AV} {r:Option Nat} (hm:ov T m=.mp b) (hb:H b=some [.omap ks vs]) (hk:ov T key=kv) (hfit:i6 kk kv=true) (hr:dv kk kv ks=some r)
    (k:av P .text l (aP T d (.tup [xz z r vs,.int .i64 (vL r ks)])) (ao H b [.omap (cI kv r ks) (kC z r vs)]) nx K):av P .text (⟨d,none,.mplc kk z m key⟩ :: l) T H nx K:=by
 subst hk;exact tP rfl ⟨b,ks,vs,r,hm,hb,hfit,hr,k⟩
theorem Bk {K:SP} {l:List Op2} {d:Option Nat} {m s x:Opd} {b i:Nat} {ks vs:List AV} {xv:AV} (hm:ov T m=.mp b) (hb:H b=some [.omap ks vs]) (hi:ov T s=.int .i64 (i:Int)) (hlt:i < ks.length) (hx:ov T x=xv)
    (k:av P .text l (aP T d (.tup [])) (ao H b [.omap ks (vs.set i xv)]) nx K):av P .text (⟨d,none,.mpst m s x⟩ :: l) T H nx K:=by
 subst hx;exact tP rfl ⟨b,ks,vs,i,hm,hb,hi,hlt,k⟩
theorem GX {K:SP} {l:List Op2} {d:Option Nat} {sz n:Nat} {x y:Opd} {H':Hp} (h:lV sz (ov T x) (ov T y) H=some (n,H')) (k:av P .text l (aP T d (.int .i64 n)) H' nx K):av P .text (⟨d,none,.cpy sz x y⟩ :: l) T H nx K:=tP rfl ⟨n,H',h,k⟩
theorem Ec {K:SP} {l:List Op2} {d:Option Nat} {sz:Nat} {z:AV} {x:Opd} {H':Hp} (h:iG sz z (ov T x) H=some H') (k:av P .text l (aP T d (.tup [])) H' nx K):av P .text (⟨d,none,.clr sz z x⟩ :: l) T H nx K:=tP rfl ⟨H',h,k⟩
theorem Hm {K:SP} {l:List Op2} {d:Option Nat} {len sz:Nat} {x:Opd} {b n off:Nat} {cs:List AV} (hx:ov T x=.ptr b n off) (hb:H b=some cs) (hn:cs.length=n) (hf:off + len * sz=n) (k:av P .text l (aP T d (.msl b n sz off len)) H nx K):av P .text (⟨d,none,.slp len sz x⟩ :: l) T H nx K:=tP rfl ⟨b,n,off,cs,hx,hb,hn,hf,k⟩
theorem xE {K:SP} {l:List Op2} {d:Option Nat} {neg:Bool} {x:Opd} {k:Nat} (hx:f0 (ov T x)=some k) (h1:0 < k→av P .text l (aP T d (.bool neg)) H nx K) (h2:k=0→av P .text l (aP T d (.bool true)) H nx K) (h3:k=0→av P .text l (aP T d (.bool false)) H nx K):av P .text (⟨d,none,.snil neg x⟩ :: l) T H nx K:=tP rfl ⟨k,hx,h1,fun h=>⟨h2 h,h3 h⟩⟩
theorem xl {K:CP} {g:Opd} {ps:List Nat} {a b:C2} {f:FuncId} {caps:List AV} (hg:ov T g=.func f caps)
    (h:∀ (c0:AV) (cj:AEx→AV),(∀ (args:List AV) (H':Hp) (nx':Nat) (K':AV→Hp→Nat→Prop),H' nx=some [c0]→args.length=ps.length →
        aW P a (iY T ps args) H' nx' (fun e T2 H2 nx2=>bl e (H2 nx=some [c0]∧aW P b T2 (cw H2 nx) nx2 fun e T3 H3 nx3=>bl e (K' (.bool true) (ao H3 nx [c0]) nx3) (K' (.bool false) (ao H3 nx [cj e]) nx3)) False) →
        Yl P nx args H' nx' K') →
     Fn P f (.yld nx :: caps) (ao H nx [c0]) (nx + 1) fun _ H' nx'=>(H' nx=some [c0]∧K .normal T (cw H' nx) nx') ∨ ∃ e,e ≠ .normal∧H' nx=some [cj e]∧K e T (cw H' nx) nx'):aW P (.rangeF g ps a b) T H nx K:=⟨f,caps,hg,h⟩
theorem Ft {dm:DM} {K:SP} {l:List Op2} {d:Option Nat} {i:Ins} {t:Nat} {w:Bool} (h:T t=.bool w) (k:av P dm (⟨d,none,i⟩ :: l) T H nx K):av P dm (⟨d,some (t,w),i⟩ :: l) T H nx K:=by
 show bx (g2 T (some (t,w))) _ _;have:g2 T (some (t,w))=some true:=by simp [g2,h]
 rw [this]; exact k
theorem F5 {dm:DM} {K:SP} {l:List Op2} {d:Option Nat} {i:Ins} {t:Nat} {w:Bool} (h:T t=.bool (!w) ∨ T t=.tup []) (k:av P dm l (aP T d (.tup [])) H nx K):av P dm (⟨d,some (t,w),i⟩ :: l) T H nx K:=by
 show bx (g2 T (some (t,w))) _ _
 have:g2 T (some (t,w))=some false:=by
  rcases h with h | h
  ·cases w <;> simp [g2,h]
  ·simp [g2,h]
 rw [this]; exact k
theorem ak {e:AEx} {A:Prop} (he:e.ends=true) (h:A):bB e.ends A:=⟨he,h⟩
theorem r_1 {K:AV→Prop} {a:RV} {x:AV} (ha:rv T H a=some x) (h:K x):cK T H K [a]:=by
 show aU (rv T H a) K;rw [ha]; exact h
theorem r_2 {K:AV→Prop} {a b:RV} {x y:AV} (ha:rv T H a=some x) (hb:rv T H b=some y) (h:K (.tup [x,y])):cK T H K [a,b]:=by
 show aU (rv T H a) _;rw [ha];show aU (rv T H b) _;rw [hb]; exact h
theorem r_3 {K:AV→Prop} {a b c:RV} {x y z:AV} (ha:rv T H a=some x) (hb:rv T H b=some y) (hc:rv T H c=some z) (h:K (.tup [x,y,z])):cK T H K [a,b,c]:=by
 show aU (rv T H a) _;rw [ha];show aU (rv T H b) _;rw [hb];show aU (rv T H c) _;rw [hc]; exact h
theorem xp {T:Tm} {t:Nat} {v:AV} (h:T t=v):upd T t v=T:=by
 funext x; simp only [upd]; split
 ·rename_i e; rw [e,h]
 ·rfl
theorem G7 {dm:DM} {K:SP} {l:List Op2} {d:Option Nat} {i:Ins} {t:Nat} {w b:Bool} (h:T t=.bool b) (k1:b=w→av P dm (⟨d,none,i⟩ :: l) (upd T t (.bool w)) H nx K)
    (k2:b=!w→av P dm l (aP (upd T t (.bool (!w))) d (.tup [])) H nx K):av P dm (⟨d,some (t,w),i⟩ :: l) T H nx K:=by
 by_cases hb:b=w
 ·subst hb;have:=k1 rfl;rw [xp h] at this;exact Ft h this
 ·have hb':b=!w:=by cases b <;> cases w <;> simp_all
  subst hb';have:=k2 rfl;rw [xp h] at this;exact F5 (.inl h) this
theorem wA {α:Type} {f:α→AV} {l:List α} {k:Nat} {u:AV} (d:α) (h:k < l.length):(l.map f).getD k u=f (l.getD k d):=by
 simp [List.getD,h]
theorem BS {c:Prop} [Decidable c] {x:Option AV} {r:AV} (hc:c) (h:x=some r):(if c then x else none)=some r:=by rw [if_pos hc]; exact h
theorem AY {k:IntKind} {n:Int}:AV.cells (.int k n)=[.int k n]:=rfl
end Go.Abs
namespace Go.Abs
open Go.RowKit
def Dat (x:AV):Prop:=∀ H,Snap H x x
theorem Dat.int {k:IntKind} {n:Int}:Dat (.int k n):=fun _=>.int _ _
theorem Dat.bool {b:Bool}:Dat (.bool b):=fun _=>.bool _
theorem Dat.str {s:ByteArray}:Dat (.str s):=fun _=>.str _
theorem Dat.esl:Dat .esl:=fun _=>.esl
theorem Dat.nilp:Dat .nilp:=fun _=>.nilp
theorem Dat.nilf:Dat .nilf:=fun _=>.nilf
theorem Dat.sl {sz:Nat} {l:List AV} (h:∀ x ∈ l,∀ c ∈ x.cells,Dat c):Dat (.sl sz l):=fun H =>
 .sl sz l l rfl (fun i x y hx hy=>by rw [hx] at hy; cases hy; rfl) (fun i j x y a b hx hy ha hb=>by
  rw [hx] at hy; cases hy; rw [ha] at hb; cases hb;exact h x (fx hx) a (fx ha) H)
theorem Dat.agg {l:List AV} (h:∀ x ∈ l,Dat x):Dat (.agg l):=fun H =>
 .agg l l rfl (fun i a c ha hc=>by rw [ha] at hc; cases hc; exact h a (fx ha) H)
theorem Dat.tup {l:List AV} (h:∀ x ∈ l,Dat x):Dat (.tup l):=fun H =>
 .tup l l rfl (fun i a c ha hc=>by rw [ha] at hc; cases hc; exact h a (fx ha) H)
theorem Dat.func {f:FuncId} {l:List AV} (h:∀ x ∈ l,Dat x):Dat (.func f l):=fun H =>
 .func f l l rfl (fun i a c ha hc=>by rw [ha] at hc; cases hc; exact h a (fx ha) H)
def cu (l:List Int):AV:=.sl 1 (l.map (AV.int .i64))
def co (l:List (List Int)):AV:=.sl 1 (l.map cu)
theorem fS (l:List Int):Dat (cu l):=Dat.sl (fun x hx c hc=>by
 obtain ⟨n,_,rfl⟩:=cL.1 hx;simp only [AV.cells,fV] at hc; subst hc; exact .int)
theorem nQ (l:List (List Int)):Dat (co l):=Dat.sl (fun x hx c hc=>by
 obtain ⟨n,_,rfl⟩:=cL.1 hx;simp only [cu,AV.cells,fV] at hc; subst hc; exact fS n)
theorem yh {l:List Int}:(cu l).cells=[cu l]:=rfl
theorem ae {H:Hp}:bg H [] []:=bg.nil
theorem ai {H:Hp} {x:AV} {xs ys:List AV} (h:Dat x) (hs:bg H xs ys):bg H (x :: xs) (x :: ys):=bg.cons (h H) hs
class DatI (x:AV):Prop where
 d:Dat x
instance datI_int {k:IntKind} {n:Int}:DatI (.int k n):=⟨.int⟩
instance datI_bool {b:Bool}:DatI (.bool b):=⟨.bool⟩
instance datI_str {s:ByteArray}:DatI (.str s):=⟨.str⟩
instance datI_esl:DatI .esl:=⟨.esl⟩
instance datI_nilf:DatI .nilf:=⟨.nilf⟩
instance datI_encV {l:List Int}:DatI (cu l):=⟨fS l⟩
instance datI_encVV {l:List (List Int)}:DatI (co l):=⟨nQ l⟩
theorem am {H:Hp} {x:AV} {xs ys:List AV} [h:DatI x] (hs:bg H xs ys):bg H (x :: xs) (x :: ys):=ai h.d hs
variable {P:Program} {T:Tm} {H:Hp} {nx:Nat}
theorem dG {dm:DM} {K:SP} {l:List Op2} {d:Option Nat} {f:Opd} {args:List Opd} {g:FuncId} {caps xs ys:List AV} {r:AV} (hf:ov T f=.func g caps) (ha:args.map (ov T) ++ caps=xs)
    (hp:Pure P g ys r) (hs:aS H xs ys r) (k:av P dm l (aP T d r) H nx K):av P dm (⟨d,none,.call f args⟩ :: l) T H nx K:=by
 subst ha;cases hd:dm.isText with
 | false=>exact zj hd hf (bL.of_pure hp hs k)
 | true =>
  cases dm with
  | text=>exact yg hf (Fn.of_pure hp hs k)
  | draw=>cases hd
  | fresh m=>cases hd
theorem uX {dm:DM} {K:SP} {l:List Op2} {d:Option Nat} {f:Opd} {args:List Opd} {g:FuncId} {caps xs ys:List AV} {r:AV} (hf:ov T f=.func g caps) (ha:args.map (ov T) ++ caps=xs)
    (hp:gV P g ys r) (hs:bg H xs ys) (k:av P dm l (aP T d r) H nx K):av P dm (⟨d,none,.call f args⟩ :: l) T H nx K:=by
 subst ha;have hc:=hp.callOk hs;cases hd:dm.isText with
 | false=>exact zj hd hf (bL.of_callOk hc k)
 | true =>
  cases dm with
  | text=>exact yg hf (Fn.of_callOk hc k)
  | draw=>cases hd
  | fresh m=>cases hd
theorem zp {dm:DM} {K:SP} {l:List Op2} {d:Option Nat} {f:Opd} {args:List Opd} {g:FuncId} {caps xs:List AV} {r:AV} (hf:ov T f=.func g caps) (ha:args.map (ov T) ++ caps=xs)
    (hp:Pure P g xs r) (hs:aS H xs xs r) (k:av P dm l (aP T d r) H nx K):av P dm (⟨d,none,.call f args⟩ :: l) T H nx K:=dG hf ha hp hs k
theorem ag {xs ys:List AV} {r:AV} {H:Hp} (h:bg bK xs ys):aS H xs ys r:=.inl h
theorem af {xs ys:List AV} {r:AV} {H:Hp} (h:bg H xs ys) (hr:r.sca=true):aS H xs ys r:=.inr ⟨h,hr⟩
theorem qn {α:Type} [Inhabited α] {f:α→AV} {l:List α} {sz:Nat} {k:IntKind} {n:Int}:fg sz (.sl sz (l.map f)) (.int k n)=if 0 ≤ n∧n < l.length then some (.iptr (f (l.getD n.toNat default)).cells 0) else none:=by
 simp only [fg,true_and,cr];split
 ·rename_i h;rw [wA default (by omega)]
 ·rfl
theorem oI {α:Type} {f:α→AV} {l:List α} {sz:Nat}:dK (.sl sz (l.map f))=some (.int .i64 l.length):=by simp [dK]
theorem ln {l:List Int} {k:IntKind} {n:Int}:fg 1 (cu l) (.int k n)=if 0 ≤ n∧n < l.length then some (.iptr [.int .i64 (l.getD n.toNat default)] 0) else none:=qn
theorem jR {l:List (List Int)} {k:IntKind} {n:Int}:fg 1 (co l) (.int k n)=if 0 ≤ n∧n < l.length then some (.iptr [cu (l.getD n.toNat default)] 0) else none:=qn
theorem yw {l:List Int}:dK (cu l)=some (.int .i64 l.length):=oI
theorem v6 {l:List (List Int)}:dK (co l)=some (.int .i64 l.length):=oI
end Go.Abs
namespace Go.Abs
theorem SA:(∀ (T:Tm) (n:Nat),ov T (.t n)=T n)∧(∀ (T:Tm) (v:AV),ov T (.c v)=v)∧(∀ (T:Tm) (d t:Nat) (v:AV),upd T d v t=if t=d then v else T t)∧(∀ (T:Tm) (d:Nat) (v:AV),aP T (some d) v=upd T d v) ∧
    (∀ (T:Tm) (v:AV),aP T none v=T)∧(∀ (x:AV) (l:List AV),T0 (x :: l) 0=x)∧(∀ (x:AV) (l:List AV) (n:Nat),T0 (x :: l) (n + 1)=T0 l n)∧(∀ n:Nat,T0 [] n=.undef) ∧
    (∀ (d t:Nat) (v:AV) (l:List (Nat × AV)),tl ((d,v) :: l) t=if t=d then v else tl l t)∧(∀ t:Nat,tl [] t=.undef) ∧
    (∀ (T:Tm) (t:Nat) (ts:List Nat) (x:AV) (xs:List AV),iY T (t :: ts) (x :: xs)=iY (upd T t x) ts xs)∧(∀ (T:Tm) (xs:List AV),iY T [] xs=T) :=
 ⟨fun _ _=>rfl,fun _ _=>rfl,fun _ _ _ _=>rfl,fun _ _ _=>rfl,fun _ _=>rfl,fun _ _=>rfl,fun _ _ _=>rfl,fun _=>rfl,fun _ _ _ _=>rfl,fun _=>rfl,fun _ _ _ _ _=>rfl,fun _ xs=>by cases xs <;> rfl⟩
theorem SV:(∀ (T:Tm) (H:Hp) (x:Opd),br T H (.mov x)=some (ov T x)) ∧
    (∀ (T:Tm) (H:Hp) (c a b:Opd),br T H (.pick c a b)=match ov T c with | .bool t=>some (if t=true then ov T a else ov T b) | _=>none) ∧
    (∀ (T:Tm) (H:Hp) (a:Opd),br T H (.ld1 a)=rd1 H (ov T a))∧(∀ (T:Tm) (H:Hp) (k:Nat) (a:Opd),br T H (.ldn k a)=(rd H k (ov T a)).map .agg) ∧
    (∀ (T:Tm) (H:Hp) (op:BinOp) (tb tf:Bool) (x y:Opd),br T H (.bin op tb tf x y)=bf op tb tf (ov T x) (ov T y)) ∧
    (∀ (T:Tm) (H:Hp) (op:UnOp) (x:Opd),br T H (.un op x)=aun op (ov T x)) ∧
    (∀ (T:Tm) (H:Hp) (f:FuncId) (caps:List Opd),br T H (.mkfn f caps)=some (.func f (caps.map (ov T)))) ∧
    (∀ (T:Tm) (H:Hp) (k:Nat) (p:Opd),br T H (.fa k p)=j0 k (ov T p)) ∧
    (∀ (T:Tm) (H:Hp) (sz:Nat) (x i:Opd),br T H (.ixaS sz x i)=fg sz (ov T x) (ov T i)) ∧
    (∀ (T:Tm) (H:Hp) (x:Opd) (i:Nat),br T H (.ext x i)=gG (ov T x) i) ∧
    (∀ (T:Tm) (H:Hp) (x:Opd),br T H (.lenS x)=dK (ov T x)) ∧
    (∀ (T:Tm) (H:Hp) (z:List AV) (parts:List (Nat × Nat × Opd)),br T H (.bld z parts)=(eF z (parts.map fun p=>(p.1,p.2.1,ov T p.2.2))).map .agg) ∧
    (∀ (T:Tm) (H:Hp) (x:Opd) (l:List Opd),br T H (.mx x l)=gy ny (ov T x) (l.map (ov T))) ∧
    (∀ (T:Tm) (H:Hp) (x:Opd) (l:List Opd),br T H (.mn x l)=gy ns (ov T x) (l.map (ov T))) ∧
    (∀ (T:Tm) (H:Hp) (k:IntKind) (x:Opd),br T H (.conv k x)=nk (ov T x) fun n=>some (.int k (k.wrap n))) ∧
    (∀ (T:Tm) (H:Hp) (sz:Nat) (x:Opd) (lo hi mx:Option Opd),br T H (.sls sz x lo hi mx)=iW sz (ov T x) (lo.map (ov T)) (hi.map (ov T)) (mx.map (ov T))) ∧
    (∀ (T:Tm) (H:Hp) (off:Nat) (x:Opd),br T H (.part1 off x)=dU (ov T x) fun cs=>cs[off]?) ∧
    (∀ (T:Tm) (H:Hp) (op:BinOp) (ks:List TK) (x y:Opd),br T H (.binS op ks x y)=dU (ov T x) fun xs=>dU (ov T y) fun ys=>mJ op ks xs ys) :=
 ⟨fun _ _ _=>rfl,fun _ _ _ _ _=>rfl,fun _ _ _=>rfl,fun _ _ _ _=>rfl,fun _ _ _ _ _ _ _=>rfl,fun _ _ _ _=>rfl,fun _ _ _ _=>rfl,fun _ _ _ _=>rfl,fun _ _ _ _ _=>rfl,fun _ _ _ _=>rfl,fun _ _ _=>rfl,
  fun _ _ _ _=>rfl,fun _ _ _ _=>rfl,fun _ _ _ _=>rfl,fun _ _ _ _=>rfl,fun _ _ _ _ _ _ _=>rfl,fun _ _ _ _=>rfl,fun _ _ _ _ _ _=>rfl⟩
def p7:AV→Option AV
 | .str s=>some (.int .i64 s.size)
 | _=>none
def mh:AV→AV→Option AV
 | .str s,.int _ n=>if 0 ≤ n∧n < s.size then some (.int .u8 (s[n.toNat]?.getD 0).toNat) else none
 | _,_=>none
theorem SV2:(∀ (T:Tm) (H:Hp) (n:Nat) (x:Opd) (lo hi:Option Opd),br T H (.slsA n x lo hi)=wH n (ov T x) (lo.map (ov T)) (hi.map (ov T)) none) ∧
    (∀ (T:Tm) (H:Hp) (f:FuncId) (l:List Opd),br T H (.mkbf f l)=some (.bfn f (l.map (ov T)))) ∧
    (∀ (T:Tm) (H:Hp) (x:Opd),br T H (.lenStr x)=p7 (ov T x)) ∧
    (∀ (T:Tm) (H:Hp) (x i:Opd),br T H (.ixStr x i)=mh (ov T x) (ov T i)) ∧
    (∀ (T:Tm) (H:Hp) (x:Opd) (lo hi:Option Opd),br T H (.slstr x lo hi)=uu (ov T x) (lo.map (ov T)) (hi.map (ov T))) ∧
    (∀ (T:Tm) (H:Hp) (off k:Nat) (x:Opd),br T H (.partn off k x)=dU (ov T x) fun cs=>if off + k ≤ cs.length then some (.agg ((cs.drop off).take k)) else none) ∧
    (∀ (T:Tm) (H:Hp) (n:Nat),br T H (.lenC n)=some (.int .i64 n)) ∧
    (∀ (s:ByteArray),p7 (.str s)=some (.int .i64 s.size)) ∧
    (∀ (s:ByteArray) (k:IntKind) (n:Int),mh (.str s) (.int k n)=if 0 ≤ n∧n < s.size then some (.int .u8 (s[n.toNat]?.getD 0).toNat) else none) :=
 ⟨fun _ _ _ _ _ _=>rfl,fun _ _ _ _=>rfl,fun T H x=>by
  simp only [br];cases ov T x <;> rfl,fun T H x i=>by
  simp only [br];cases ov T x <;> cases ov T i <;> rfl,fun _ _ _ _ _=>rfl,fun _ _ _ _ _=>rfl,fun _ _ _=>rfl,fun _=>rfl,fun _ _ _=>rfl⟩
theorem SN:(∀ (k:IntKind) (a b:Int) (tb tf:Bool),bf .lss tb tf (.int k a) (.int k b)=some (.bool (decide (a < b))))∧(∀ (k:IntKind) (a b:Int) (tb tf:Bool),bf .leq tb tf (.int k a) (.int k b)=some (.bool (decide (a ≤ b)))) ∧
    (∀ (k:IntKind) (a b:Int) (tb tf:Bool),bf .gtr tb tf (.int k a) (.int k b)=some (.bool (decide (b < a))))∧(∀ (k:IntKind) (a b:Int) (tb tf:Bool),bf .geq tb tf (.int k a) (.int k b)=some (.bool (decide (b ≤ a)))) ∧
    (∀ (k:IntKind) (a b:Int) (tb tf:Bool),bf .eql tb tf (.int k a) (.int k b)=some (.bool (decide (a=b))))∧(∀ (k:IntKind) (a b:Int) (tb tf:Bool),bf .neq tb tf (.int k a) (.int k b)=some (.bool (decide (a ≠ b)))) ∧
    (∀ (k:IntKind) (a b:Int) (tb tf:Bool),bf .add tb tf (.int k a) (.int k b)=some (.int k (k.wrap (a + b))))∧(∀ (k:IntKind) (a b:Int) (tb tf:Bool),bf .sub tb tf (.int k a) (.int k b)=some (.int k (k.wrap (a - b)))) ∧
    (∀ (k:IntKind) (a b:Int) (tb tf:Bool),bf .mul tb tf (.int k a) (.int k b)=some (.int k (k.wrap (a * b)))) ∧
    (∀ (a b:Bool) (tf:Bool),bf .eql true tf (.bool a) (.bool b)=some (.bool (a == b)))∧(∀ (a b:Bool) (tf:Bool),bf .neq true tf (.bool a) (.bool b)=some (.bool (!(a == b)))) ∧
    (∀ tb:Bool,bf .eql tb true .nilf .nilf=some (.bool true))∧(∀ tb:Bool,bf .neq tb true .nilf .nilf=some (.bool false)) ∧
    (∀ (tb:Bool) (f:FuncId) (c:List AV),bf .eql tb true (.func f c) .nilf=some (.bool false))∧(∀ (tb:Bool) (f:FuncId) (c:List AV),bf .neq tb true (.func f c) .nilf=some (.bool true)) ∧
    (∀ b:Bool,aun .not (.bool b)=some (.bool (!b))) ∧
    (∀ (k:IntKind) (a b:Int),ny (.int k a) (.int k b)=some (.int k (max a b)))∧(∀ (k:IntKind) (a b:Int),ns (.int k a) (.int k b)=some (.int k (min a b))) ∧
    (∀ (f:AV→AV→Option AV) (x:AV),gy f x []=some x)∧(∀ (f:AV→AV→Option AV) (x y:AV) (l:List AV),gy f x (y :: l)=match f x y with | some z=>gy f z l | none=>none) ∧
    (∀ (k:Nat) (b n off:Nat),j0 k (.ptr b n off)=some (.ptr b n (off + k)))∧(∀ (k:Nat) (cs:List AV) (off:Nat),j0 k (.iptr cs off)=some (.iptr cs (off + k))) ∧
    (∀ (cs:List AV) (off:Nat),rd1 bK (.iptr cs off)=cs[off]?) :=
 ⟨fun _ _ _ _ _=>DA,fun _ _ _ _ _=>Dx,fun _ _ _ _ _=>C6,fun _ _ _ _ _=>DD,fun _ _ _ _ _=>Dn,fun _ _ _ _ _=>CX,fun _ _ _ _ _=>Dl,fun _ _ _ _ _=>Dw,fun _ _ _ _ _=>Da,
  fun _ _ _=>rfl,fun _ _ _=>rfl,fun _=>rfl,fun _=>rfl,fun _ _ _=>rfl,fun _ _ _=>rfl,fun _=>rfl,
  fun k a b=>by simp only [ny,Int.max_def]; split <;> split <;> simp <;> omega,fun k a b=>by simp only [ns,Int.min_def]; split <;> split <;> simp <;> omega,fun _ _=>rfl,fun _ _ _ _=>rfl,fun _ _ _ _=>rfl,fun _ _ _=>rfl,fun _ _=>rfl⟩
theorem SL:(∀ (a:AV) (l:List AV),(a :: l)[0]?=some a)∧(∀ (a:AV) (l:List AV) (n:Nat),(a :: l)[n + 1]?=l[n]?)∧(∀ (l:List AV),l.drop 0=l)∧(∀ (a:AV) (l:List AV) (n:Nat),(a :: l).drop (n + 1)=l.drop n)∧(∀ n:Nat,([]:List AV).drop n=[]) ∧
    (∀ (l:List AV),l.take 0=[])∧(∀ (a:AV) (l:List AV) (n:Nat),(a :: l).take (n + 1)=a :: l.take n)∧(∀ n:Nat,([]:List AV).take n=[])∧(∀ (l:List AV),[] ++ l=l)∧(∀ (l:List AV),l ++ []=l)∧(∀ (a:AV) (l m:List AV),(a :: l) ++ m=a :: (l ++ m)) ∧
    (∀ (cs:List AV) (off:Nat) (new:List AV),bu cs off new=cs.take off ++ new ++ cs.drop (off + new.length))∧(([]:List AV).length=0)∧(∀ (a:AV) (l:List AV),(a :: l).length=l.length + 1) ∧
    (∀ (k:IntKind) (n:Int),(AV.int k n).cells=[.int k n])∧(∀ b:Bool,(AV.bool b).cells=[.bool b])∧(∀ s:ByteArray,(AV.str s).cells=[.str s])∧(∀ (k:Nat) (l:List AV),(AV.sl k l).cells=[.sl k l])∧(∀ l:List AV,(AV.agg l).cells=l)∧(AV.esl.cells=[.esl])∧(AV.nilf.cells=[.nilf]) ∧
    (∀ (f:FuncId) (c:List AV),(AV.func f c).cells=[.func f c])∧(∀ (b n off:Nat),(AV.ptr b n off).cells=[.ptr b n off])∧(∀ (c:List AV) (off:Nat),(AV.iptr c off).cells=[.iptr c off])∧(∀ (b n sz off len:Nat),(AV.msl b n sz off len).cells=[.msl b n sz off len])∧(∀ b:Nat,(AV.yld b).cells=[.yld b])∧(∀ b:Nat,(AV.mp b).cells=[.mp b])∧(AV.nilp.cells=[.nilp])∧(∀ (f:FuncId) (c:List AV),(AV.bfn f c).cells=[.bfn f c]) :=
 ⟨fun _ _=>rfl,fun _ _ _=>rfl,fun _=>rfl,fun _ _ _=>rfl,fun n=>by cases n <;> rfl,fun _=>rfl,fun _ _ _=>rfl,fun n=>by cases n <;> rfl,fun _=>rfl,fun l=>iJ l,fun _ _ _=>rfl,fun _ _ _=>rfl,rfl,fun _ _=>rfl,
  fun _ _=>rfl,fun _=>rfl,fun _=>rfl,fun _ _=>rfl,fun _=>rfl,rfl,rfl,fun _ _=>rfl,fun _ _ _=>rfl,fun _ _=>rfl,fun _ _ _ _ _=>rfl,fun _=>rfl,fun _=>rfl,rfl,fun _ _=>rfl⟩
def AV.ones (l:List AV):Bool:=l.all AV.one
theorem SO:(AV.ones []=true)∧(∀ (a:AV) (l:List AV),AV.ones (a :: l)=(a.one && AV.ones l))∧(∀ (k:IntKind) (n:Int),(AV.int k n).one=true)∧(∀ b:Bool,(AV.bool b).one=true)∧(∀ s:ByteArray,(AV.str s).one=true)∧(∀ (k:Nat) (l:List AV),(AV.sl k l).one=true)∧(AV.esl.one=true)∧(AV.nilf.one=true) ∧
    (∀ (f:FuncId) (c:List AV),(AV.func f c).one=true)∧(∀ (b n off:Nat),(AV.ptr b n off).one=true)∧(∀ (c:List AV) (off:Nat),(AV.iptr c off).one=true)∧(∀ (b n sz off len:Nat),(AV.msl b n sz off len).one=true)∧(∀ b:Nat,(AV.yld b).one=true)∧(∀ b:Nat,(AV.mp b).one=true)∧(AV.nilp.one=true)∧(∀ l:List AV,l.all AV.one=AV.ones l) :=
 ⟨rfl,fun _ _=>by simp [AV.ones],fun _ _=>rfl,fun _=>rfl,fun _=>rfl,fun _ _=>rfl,rfl,rfl,fun _ _=>rfl,fun _ _ _=>rfl,fun _ _=>rfl,fun _ _ _ _ _=>rfl,fun _=>rfl,fun _=>rfl,rfl,fun _=>rfl⟩
variable {P:Program} {T:Tm} {H:Hp} {nx:Nat}
theorem yS {dm:DM} {K:SP} {l:List Op2} {d:Option Nat} {z:AV} {cs:List AV} (hd:dm2 dm T (.alloc z)=true) (hc:z.cells=cs) (ho:AV.ones cs=true) (k:av P dm l (aP T d (.ptr nx cs.length 0)) (ao H nx cs) (nx + 1) K):av P dm (⟨d,none,.alloc z⟩ :: l) T H nx K:=by
 subst hc;refine l9 rfl hd ?_ k;simp only [gd,pO]; rw [if_pos (show z.flat=true from ho)]
theorem D8 {dm:DM} {K:SP} {l:List Op2} {d:Option Nat} {x:Opd} {v:AV} {cs:List AV} (hd:dm2 dm T (.box x)=true) (hx:ov T x=v) (hc:v.cells=cs) (ho:AV.ones cs=true) (k:av P dm l (aP T d (.ptr nx cs.length 0)) (ao H nx cs) (nx + 1) K):av P dm (⟨d,none,.box x⟩ :: l) T H nx K:=by
 subst hc hx;refine l9 rfl hd ?_ k;simp only [gd,pO]; rw [if_pos (show (ov T x).flat=true from ho)]
theorem Fw {dm:DM} {K:SP} {l:List Op2} {d:Option Nat} {sz:Nat} {p x:Opd} {b n off:Nat} {v:AV} {cs vs:List AV} (hd:dm2 dm T (.st sz p x)=true) (hp:ov T p=.ptr b n off) (hx:ov T x=v) (hb:H b=some cs) (hc:v.cells=vs) (ho:AV.ones vs=true) (hn:cs.length=n) (hl:vs.length=sz) (hf:off + sz ≤ n)
    (k:av P dm l (aP T d (.tup [])) (ao H b (bu cs off vs)) nx K):av P dm (⟨d,none,.st sz p x⟩ :: l) T H nx K:=by
 subst hc hx;refine l9 rfl hd ?_ k;simp only [gd,hp,hb];rw [if_pos ⟨hn,ho,hl,hf⟩]
theorem yD {dm:DM} {K:SP} {l:List Op2} {d:Option Nat} {sz bytes:Nat} {z:List AV} {x y:Opd} {k1 k2:IntKind} {n m:Int} (hd:dm2 dm T (.mks sz bytes z x y)=true) (hx:ov T x=.int k1 n) (hy:ov T y=.int k2 m) (h0:0 ≤ n) (h1:n ≤ m) (h2:m ≤ 9223372036854775807) (h3:bytes * m ≤ 281474976710656)
    (k:av P dm l (aP T d (.msl nx (m.toNat * sz) sz 0 n.toNat)) (ao H nx (be (.agg z) m.toNat)) (nx + 1) K):av P dm (⟨d,none,.mks sz bytes z x y⟩ :: l) T H nx K:=by
 refine l9 rfl hd ?_ k;simp only [gd,hx,hy];rw [if_pos ⟨h0,h1,h2,h3⟩]
theorem DW {dm:DM} {K:SP} {l:List Op2} {d:Option Nat} {sz len:Nat} {z:List AV} {parts:List (Nat × Nat × Opd)} {pv:List (Nat × Nat × AV)} {cs:List AV} (hd:dm2 dm T (.bldS sz len z parts)=true) (hl:len ≠ 0) (hp:parts.map (fun p=>(p.1,p.2.1,ov T p.2.2))=pv) (hc:eF (be (.agg z) len) pv=some cs)
    (k:av P dm l (aP T d (.msl nx cs.length sz 0 len)) (ao H nx cs) (nx + 1) K):av P dm (⟨d,none,.bldS sz len z parts⟩ :: l) T H nx K:=by
 refine l9 rfl hd ?_ k;simp only [gd,hl,if_false,hp,hc]
theorem E5 {dm:DM} {K:SP} {l:List Op2} {d:Option Nat} {sz:Nat} {z:List AV} (hd:dm2 dm T (.bldS sz 0 z [])=true) (k:av P dm l (aP T d .esl) H nx K):av P dm (⟨d,none,.bldS sz 0 z []⟩ :: l) T H nx K:=by
 refine l9 rfl hd ?_ k;simp [gd]
theorem oC {dm:DM} {K:SP} {l:List Op2} {d:Option Nat} {sz bytes n:Nat} {s x:Opd} {v:AV} {new:List AV} (hd:dm2 dm T (.app sz bytes s x)=true) (hs:ov T s=.esl) (hx:ov T x=v) (hsrc:ed sz H v=some (n,new)) (ho:AV.ones new=true) (h1:n * bytes ≤ 140737488355328) (h2:n ≤ 9223372036854775807)
    (k:av P dm l (aP T d (.msl nx (n * sz) sz 0 n)) (ao H nx new) (nx + 1) K):av P dm (⟨d,none,.app sz bytes s x⟩ :: l) T H nx K:=by
 subst hx;refine l9 rfl hd ?_ k;simp only [gd,Cp,hs,hsrc];rw [if_pos (show new.all AV.one=true from ho),if_pos ⟨h1,h2⟩]
theorem Cw {dm:DM} {K:SP} {l:List Op2} {d:Option Nat} {sz bytes n:Nat} {s x:Opd} {v:AV} {new cs:List AV} {b m len:Nat} (hd:dm2 dm T (.app sz bytes s x)=true) (hs:ov T s=.msl b m sz 0 len) (hb:H b=some cs) (hx:ov T x=v) (hsrc:ed sz H v=some (n,new)) (ho:AV.ones new=true) (hm:cs.length=m) (hl:m=len * sz)
    (h1:(len + n) * bytes ≤ 140737488355328) (h2:len + n ≤ 9223372036854775807)
    (k:av P dm l (aP T d (.msl b ((len + n) * sz) sz 0 (len + n))) (ao H b (cs ++ new)) nx K):av P dm (⟨d,none,.app sz bytes s x⟩ :: l) T H nx K:=by
 subst hx;refine l9 rfl hd ?_ k;simp only [gd,Cp,hs,hsrc,hb];rw [if_pos (show new.all AV.one=true from ho),if_pos ⟨hm,trivial⟩,if_pos ⟨trivial,hl,h1,h2⟩]
theorem uF {dm:DM} {K:SP} {l:List Op2} {d:Option Nat} {sz bytes n:Nat} {s x:Opd} {v:AV} {new cs:List AV} {b m off len:Nat} (hd:dm2 dm T (.app sz bytes s x)=true) (hs:ov T s=.msl b m sz off len) (hb:H b=some cs) (hx:ov T x=v) (hsrc:ed sz H v=some (n,new)) (ho:AV.ones new=true) (hm:cs.length=m) (hl:off=0→m ≠ len * sz) (h0:0 < m) (h1:off + (len + n) * sz ≤ m)
    (k:av P dm l (aP T d (.msl b m sz off (len + n))) (ao H b (bu cs (off + len * sz) new)) nx K):av P dm (⟨d,none,.app sz bytes s x⟩ :: l) T H nx K:=by
 subst hx;refine l9 rfl hd ?_ k;simp only [gd,Cp,hs,hsrc,hb];rw [if_pos (show new.all AV.one=true from ho),if_pos ⟨hm,trivial⟩,if_neg (fun h=>hl h.1 h.2.1),if_pos ⟨h1,h0⟩]
theorem tM {sz:Nat} {l:List AV}:ed sz H (.sl sz l)=some (l.length,l.flatMap AV.cells):=by simp [ed]
theorem kW {sz b n off len:Nat} {cs:List AV} (h:H b=some cs) (hn:cs.length=n) (hf:off + len * sz ≤ n):ed sz H (.msl b n sz off len)=some (len,(cs.drop off).take (len * sz)):=by
 simp only [ed];split
 ·rename_i h0; subst h0; simp
 ·simp only [h,hn,true_and,hf,if_true]
theorem SR:(∀ (H:Hp) (b n off:Nat),rd1 H (.ptr b n off)=match H b with | some cs=>if cs.length=n then cs[off]? else none | none=>none) ∧
    (∀ (H:Hp) (k b n off:Nat),rd H k (.ptr b n off)=match H b with | some cs=>if cs.length=n∧off + k ≤ n then some ((cs.drop off).take k) else none | none=>none) ∧
    (∀ (H:Hp) (cs:List AV) (off:Nat),rd1 H (.iptr cs off)=cs[off]?)∧(∀ (H:Hp) (cs:List AV) (off k:Nat),rd H k (.iptr cs off)=if off + k ≤ cs.length then some ((cs.drop off).take k) else none) ∧
    (∀ (l:List AV) (i:Nat),gG (.tup l) i=l[i]?)∧(∀ (l:List AV) (f:List AV→Option AV),dU (.agg l) f=f l)∧(∀ (k:IntKind) (n:Int) (f:Int→Option AV),nk (.int k n) f=f n) ∧
    (∀ (cs:List AV),eF cs []=some cs) ∧
    (∀ (cs:List AV) (off sz:Nat) (x:AV) (r:List (Nat × Nat × AV)),eF cs ((off,sz,x) :: r)=if AV.ones x.cells=true∧x.cells.length=sz∧off + sz ≤ cs.length then eF (bu cs off x.cells) r else none) ∧
    (∀ (b n sz off len:Nat),dK (.msl b n sz off len)=some (.int .i64 len))∧(dK .esl=some (.int .i64 0))∧(∀ (sz:Nat) (l:List AV),dK (.sl sz l)=some (.int .i64 l.length)) ∧
    (∀ (z:AV),be z 0=[])∧(∀ (z:AV) (n:Nat),be z (n + 1)=z.cells ++ be z n) :=
 ⟨fun _ _ _ _=>rfl,fun _ _ _ _ _=>rfl,fun _ _ _=>rfl,fun _ _ _ _=>rfl,fun l i=>by cases l <;> rfl,fun _ _=>rfl,fun _ _ _=>rfl,fun _=>rfl,fun _ _ _ _ _=>rfl,fun _ _ _ _ _=>rfl,rfl,fun _ _=>rfl,fun _=>rfl,fun z n=>by simp [be,List.replicate_succ]⟩
end Go.Abs
namespace Go.Abs
theorem bF {H:Hp} {a b:Bool} (h:a=b):Snap H (.bool a) (.bool b):=by subst h; exact .bool _
theorem dg {H:Hp} {k:IntKind} {a b:Int} (h:a=b):Snap H (.int k a) (.int k b):=by subst h; exact .int _ _
theorem eT {H:Hp} {l m:List AV} (h:bg H l m):Snap H (.tup l) (.tup m):=.tup l m h.1 h.2
theorem nO {H:Hp} {l m:List AV} (h:bg H l m):Snap H (.agg l) (.agg m):=.agg l m h.1 h.2
theorem aw {H:Hp} {x y:AV} {xs ys:List AV} (h:Snap H x y) (hs:bg H xs ys):bg H (x :: xs) (y :: ys):=bg.cons h hs
theorem Dat.snap {H:Hp} {x:AV} (h:Dat x):Snap H x x:=h H
theorem aZ {P:Program} {b:C2} {T:Tm} {H:Hp} {nx:Nat} {K:CP} {X:Type} (L:X→List (Nat × AV)) (I:X→Hp→Nat→Prop) (μ:X→Nat) (x0:X) (h0:I x0 H nx) (hT:agr T (L x0))
    (step:∀ x H nx,I x H nx→aW P b (tl (L x)) H nx fun e T H' nx'=>bl e (∃ y,μ y < μ x∧I y H' nx'∧agr T (L y)) (K e T H' nx')):bO (aW P b) T H nx K:=by
 refine Bw (X:=X × Hp × Nat) (fun x=>tl (L x.1)) (fun x=>x.2.1) (fun x=>x.2.2) (fun x=>I x.1 x.2.1 x.2.2) (fun x=>μ x.1) ⟨(x0,H,nx),h0,_,Gh.weak (ry hT)⟩ (fun x hx=>dM b (step x.1 x.2.1 x.2.2 hx) (fun e T H' nx' h=>?_));cases e with
 | normal =>
  obtain ⟨y,h1,h2,h3⟩:=h;exact ⟨(y,H',nx'),h2,h1,_,Gh.weak (ry h3)⟩
 | exit i=>exact h
 | ret=>exact h
def jU (Hf:Hp) (cs cs':List AV):Prop:=cs'.length=cs.length∧∀ (i:Nat) (x x':AV),cs[i]?=some x→cs'[i]?=some x'→x'=x ∨ Snap Hf x x'
theorem jU.refl (Hf:Hp) (cs:List AV):jU Hf cs cs:=⟨rfl,fun i x x' h1 h2=>.inl (by rw [h1] at h2; cases h2; rfl)⟩
theorem jU.snoc {Hf:Hp} {cs:List AV} {x x':AV} (h:Snap Hf x x'):jU Hf (cs ++ [x]) (cs ++ [x']):=by
 refine ⟨by simp,fun i y y' h1 h2=>?_⟩;by_cases hi:i < cs.length
 ·rw [fY hi] at h1 h2; rw [h1] at h2; cases h2; exact .inl rfl
 ·rw [gJ (by omega)] at h1 h2;cases hj:i - cs.length with
  | zero=>rw [hj] at h1 h2; simp at h1 h2; subst h1 h2; exact .inr h
  | succ j=>rw [hj] at h1; simp at h1
structure Fz (Hf H H':Hp):Prop where
 sub:∀ b cs,Hf b=some cs→H b=some cs
 to:∀ b cs',H' b=some cs'→∃ cs,H b=some cs∧Hf b=none∧jU Hf cs cs'
def xH (Hf:Hp) (T:Tm):List (Nat × AV)→Prop
 | []=>True
 | (d,v) :: l=>(T d=v ∨ Snap Hf (T d) v)∧xH Hf T l
theorem y7 {Hf:Hp} {T:Tm}:∀ {l:List (Nat × AV)},xH Hf T l→∀ t,tl l t=.undef ∨ tl l t=T t ∨ Snap Hf (T t) (tl l t)
 | [],_,t=>.inl rfl
 | (d,v) :: l,h,t=>by
  simp only [tl];split
  ·rename_i e; subst e;rcases h.1 with h1 | h1
   ·exact .inr (.inl h1.symm)
   ·exact .inr (.inr h1)
  ·exact y7 h.2 t
theorem Fz.gh {Hf H H':Hp} {T:Tm} {l:List (Nat × AV)} {nx:Nat} (h:Fz Hf H H') (ha:xH Hf T l):Gh T H nx (tl l) H' nx Hf :=
 ⟨h.sub,aO _,fun b cs' hb=>by
  obtain ⟨cs,h1,h2,h3,h4⟩:=h.to b cs' hb;exact .inl ⟨cs,h1,h2,h3,fun i x x' hx hx'=>(h4 i x x' hx hx').imp id .inl⟩,fun t=>by
  rcases y7 ha t with h1 | h1 | h1
  ·exact .inl h1
  ·exact .inr (.inl h1)
  ·exact .inr (.inr (.inl h1))⟩
def only (b:Nat) (cs:List AV):Hp:=fun x=>if x=b then some cs else none
theorem nG {b:Nat} {cs:List AV}:only b cs b=some cs:=by simp [only]
theorem nM {P:Program} {T:Tm} {H:Hp} {nx:Nat} {K:CP} {l:List Op2} (Hf H':Hp) (L:List (Nat × AV)) (hf:Fz Hf H H') (ha:xH Hf T L) (h:av P .text l (tl L) H' nx fun T H nx=>K .normal T H nx):aW P (.ops 0 l) T H nx K:=⟨_,H',nx,Hf,hf.gh ha,h⟩
theorem Fz.one {H:Hp} {b:Nat} {cs:List AV} (hb:H b=some cs):Fz (only b cs) H (cw H b) :=
 ⟨fun x c h=>by unfold only at h; split at h <;> cases h; subst_vars; exact hb,fun x c h=>by
  have:=lD h;exact ⟨c,this.2,by simp [only,this.1],jU.refl _ _⟩⟩
theorem Fz.all {H:Hp}:Fz H H bK:=⟨fun _ _ h=>h,fun _ _ h=>(by cases h)⟩
theorem yC {T:Tm} {Hf:Hp}:∀ {l:List (Nat × AV)},agr T l→xH Hf T l
 | [],_=>trivial
 | (_,_) :: _,h=>⟨.inl h.1,yC h.2⟩
theorem G2 {P:Program} {b:C2} {T:Tm} {H:Hp} {nx:Nat} {K:CP} {X:Type} (L:X→List (Nat × AV)) (I:X→Hp→Nat→Prop) (μ:X→Nat) (x0:X) (h0:∃ Hf H',Fz Hf H H'∧I x0 H' nx∧xH Hf T (L x0))
    (step:∀ x H nx,I x H nx→aW P b (tl (L x)) H nx fun e T H' nx'=>bl e (∃ y,μ y < μ x∧∃ Hf H'',Fz Hf H' H''∧I y H'' nx'∧xH Hf T (L y)) (K e T H' nx')):bO (aW P b) T H nx K:=by
 obtain ⟨Hf,H0,hf,hI,ha⟩:=h0;refine Bw (X:=X × Hp × Nat) (fun x=>tl (L x.1)) (fun x=>x.2.1) (fun x=>x.2.2) (fun x=>I x.1 x.2.1 x.2.2) (fun x=>μ x.1) ⟨(x0,H0,nx),hI,_,hf.gh ha⟩ (fun x hx=>dM b (step x.1 x.2.1 x.2.2 hx) (fun e T H' nx' h=>?_));cases e with
 | normal =>
  obtain ⟨y,h1,Hf,H'',h2,h3,h4⟩:=h;exact ⟨(y,H'',nx'),h3,h1,_,h2.gh h4⟩
 | exit i=>exact h
 | ret=>exact h
theorem Fz.none {H:Hp}:Fz bK H H:=⟨fun _ _ h=>(by cases h),fun b cs h=>⟨cs,h,rfl,jU.refl _ _⟩⟩
theorem ow {α:Type} [DecidableEq α] (k:MK) (enc:α→AV) (h:∀ a b,nu k (enc a) (enc b)=some (decide (a=b))) (v:α):∀ ks:List α,dv k (enc v) (ks.map enc)=some (if v ∈ ks then some (ks.idxOf v) else none)
 | []=>rfl
 | x :: l=>by
  simp only [gv,dv,h];by_cases e:v=x
  ·subst e; simp
  ·have e':x ≠ v:=fun h=>e h.symm;simp only [e,decide_false,ow k enc h v l,kj,e9,false_or];by_cases hm:v ∈ l
   ·simp only [hm,if_true,kj];simp [List.idxOf_cons,beq_eq_false_iff_ne.2 e']
   ·simp [hm]
theorem sV {α:Type} {l:List α} {n k:Nat} {d:α} (h:k < n):(l.take n).getD k d=l.getD k d:=by
 simp only [List.getD,fX,if_pos h]
theorem ie {α:Type} [Inhabited α] {l:List α} {k:Nat} (h:k < l.length):l.drop k=l.getD k default :: l.drop (k + 1):=by
 rw [List.drop_eq_getElem_cons h]; simp [List.getD,h]
theorem aj {H:Hp} {b:Nat} {cs:List AV}:ao H b cs b=some cs:=if_pos rfl
theorem lC {H:Hp} {f:FuncId} {l m:List AV} (h:bg H l m):Snap H (.func f l) (.func f m):=.func f l m h.1 h.2
theorem jk {H:Hp} {b n off:Nat} {cs cs':List AV} (hb:H b=some cs) (hn:cs.length=n) (h:bg H cs cs'):Snap H (.ptr b n off) (.iptr cs' off):=.ptr b n off cs cs' hb hn (by rw [h.1,hn]) h.2
theorem Dat.iptr {cs:List AV} {off:Nat} (h:∀ x ∈ cs,Dat x):Dat (.iptr cs off):=fun H=>.iptr cs cs off rfl (fun i a c ha hc=>by rw [ha] at hc; cases hc; exact h a (fx ha) H)
theorem DatL.nil:∀ x ∈ ([]:List AV),Dat x:=by simp
theorem DatL.cons {x:AV} {l:List AV} (h:Dat x) (hl:∀ y ∈ l,Dat y):∀ y ∈ x :: l,Dat y:=fun y hy=>(e9.1 hy).elim (fun e=>e ▸ h) (hl y)
theorem kH {H:Hp} {b n off len:Nat} {cs:List AV} {l:List AV} (hb:H b=some cs) (hn:cs.length=n) (hf:off + len ≤ n) (hl:l.length=len) (hc:∀ y ∈ l,y.cells=[y]) (h:∀ (i:Nat) (a c:AV),cs[off + i]?=some a→l[i]?=some c→Snap H a c):Snap H (.msl b n 1 off len) (.sl 1 l):=by
 refine .msl b n 1 off len cs l hb hn (by omega) hl (fun y hy=>by rw [hc y hy]; rfl) (fun i j y a c hy hc' ha=>?_);rw [hc y (fx hy)] at hc';cases j with
 | zero=>simp at hc'; subst hc'; exact h i a y (by simpa using ha) hy
 | succ j=>simp at hc'
theorem xq {H:Hp} {b n len:Nat} {l:List Int} (hb:H b=some (l.map (AV.int .i64))) (hn:n=len) (hl:l.length=len):Snap H (.msl b n 1 0 len) (cu l):=by
 subst hn;refine kH hb (by simp [hl]) (by omega) (by simp [hl]) (fun y hy=>by simp at hy; obtain ⟨n,_,rfl⟩:=hy; rfl) (fun i a c ha hc=>?_);rw [b0] at ha;rw [ha] at hc; cases hc;simp at ha;obtain ⟨n,_,rfl⟩:=ha;exact .int _ _
theorem aC {H:Hp}:∀ {l:List AV},(∀ x ∈ l,Dat x)→bg H l l
 | [],_=>bg.nil
 | x :: l,h=>bg.cons (h x (by simp) H) (aC (fun y hy=>h y (by simp [hy])))
theorem aB {α:Type} [Inhabited α] {l:List α} {k:Nat} (h:k < l.length):l.getD k default ∈ l:=by
 have:l.getD k default=l[k]:=by simp [List.getD,h]
 rw [this]; exact sa h
theorem lH {H:Hp} {l:List Int}:ed 1 H (cu l)=some (l.length,l.map (AV.int .i64)):=by
 unfold cu; rw [tM]
 congr 2
 ·simp
 ·induction l with
  | nil=>rfl
  | cons a l ih=>simp only [gv,rY,ih]; rfl
theorem np {l:List Int}:AV.ones (l.map (AV.int .i64))=true:=by
 simp [AV.ones,AV.one]
theorem gH {l:List Int}:(cu l).one=true:=rfl
theorem fI {l:List (List Int)}:(co l).one=true:=rfl
theorem zV {H:Hp} {b n len:Nat} {l:List AV} (hb:H b=some l) (hn:n=len) (hl:l.length=len) (hc:∀ y ∈ l,y.cells=[y]∧Dat y):Snap H (.msl b n 1 0 len) (.sl 1 l):=by
 subst hn;refine kH hb hl (by omega) hl (fun y hy=>(hc y hy).1) (fun i a c ha hc'=>?_);rw [b0] at ha;rw [ha] at hc'; cases hc';exact (hc a (fx ha)).2 H
theorem r_0 {T:Tm} {H:Hp} {K:AV→Prop} (h:K (.tup [])):cK T H K []:=h
theorem getElem?_map_lt {α:Type} [Inhabited α] {f:α→AV} {l:List α} {k:Nat} (h:k < l.length):(l.map f)[k]?=some (f (l.getD k default)):=by
 simp [List.getD,h]
theorem Cv {sz b m off len:Nat} {k:IntKind} {n:Int}:fg sz (.msl b m sz off len) (.int k n)=if 0 ≤ n∧n < len then some (.ptr b m (off + n.toNat * sz)) else none:=by simp [fg]
theorem oG {P:Program} {T:Tm} {H:Hp} {nx:Nat} {K:CP} {g:Opd} {ps:List Nat} {a b:C2} {f:FuncId} {caps:List AV} (y y1:Nat) (hy:nx=y) (hy1:y + 1=y1) (hg:ov T g=.func f caps)
    (h:∀ (c0:AV) (cj:AEx→AV),(∀ (args:List AV) (H':Hp) (nx':Nat) (K':AV→Hp→Nat→Prop),H' y=some [c0]→args.length=ps.length →
        aW P a (iY T ps args) H' nx' (fun e T2 H2 nx2=>bl e (H2 y=some [c0]∧aW P b T2 (cw H2 y) nx2 fun e T3 H3 nx3=>bl e (K' (.bool true) (ao H3 y [c0]) nx3) (K' (.bool false) (ao H3 y [cj e]) nx3)) False) →
        Yl P y args H' nx' K') →
     Fn P f (.yld y :: caps) (ao H y [c0]) y1 fun _ H' nx'=>(H' y=some [c0]∧K .normal T (cw H' y) nx') ∨ ∃ e,e ≠ .normal∧H' y=some [cj e]∧K e T (cw H' y) nx'):aW P (.rangeF g ps a b) T H nx K:=by
 subst hy hy1;exact xl hg h
end Go.Abs
namespace Go.Abs
inductive Row (H:Hp) (sz:Nat):AV→List AV→Prop
 | nil:Row H sz .esl []
 | box (b len:Nat) (cs:List AV) (hb:H b=some cs) (hl:cs.length=len * sz):Row H sz (.msl b (len * sz) sz 0 len) cs
def dB:AV→Option Nat
 | .msl b _ _ _ _=>some b
 | _=>none
theorem Row.len {H:Hp} {sz:Nat} {s:AV} {cs:List AV} (h:Row H sz s cs):∃ n:Nat,dK s=some (.int .i64 n)∧cs.length=n * sz:=by
 cases h with
 | nil=>exact ⟨0,rfl,by simp⟩
 | box b len cs hb hl=>exact ⟨len,rfl,hl⟩
theorem Row.lenS {H:Hp} {sz n:Nat} {s:AV} {cs:List AV} (h:Row H sz s cs) (hl:cs.length=n * sz) (hz:0 < sz):dK s=some (.int .i64 n):=by
 obtain ⟨m,h1,h2⟩:=h.len;have:m=n:=Nat.eq_of_mul_eq_mul_right hz (by omega);subst this; exact h1
theorem Row.same {H H':Hp} {sz:Nat} {s:AV} {cs:List AV} (h:Row H sz s cs) (hs:∀ b,dB s=some b→H' b=H b):Row H' sz s cs:=by
 cases h with
 | nil=>exact .nil
 | box b len cs hb hl=>exact .box b len cs ((hs b rfl).trans hb) hl
theorem Row.one {H:Hp} {sz:Nat} {s:AV} {cs:List AV} (h:Row H sz s cs):s.one=true∧s.cells=[s]:=by
 cases h <;> exact ⟨rfl,rfl⟩
theorem ah {H:Hp} {b x:Nat} {cs:List AV} (h:x ≠ b):ao H b cs x=H x:=if_neg h
theorem dX {H:Hp} {b x:Nat} (h:x ≠ b):cw H b x=H x:=if_neg h
variable {P:Program} {T:Tm} {H:Hp} {nx:Nat}
theorem jb {dm:DM} {K:SP} {l:List Op2} {d:Option Nat} {sz bytes k:Nat} {s x:Opd} {sv xv:AV} {cs new:List AV} (hd:dm2 dm T (.app sz bytes s x)=true) (hs:ov T s=sv) (hrow:Row H sz sv cs) (hx:ov T x=xv) (hsrc:ed sz H xv=some (k,new)) (ho:AV.ones new=true) (hk:new.length=k * sz)
    (hz:0 < sz) (h1:(cs.length + k) * bytes ≤ 140737488355328) (h2:cs.length + k ≤ 9223372036854775807)
    (next:∀ (sv':AV) (H':Hp) (nx':Nat),Row H' sz sv' (cs ++ new)→nx ≤ nx'→nx' ≤ nx + 1→(∀ i,i < nx→dB sv ≠ some i→H' i=H i)→(∀ b,dB sv'=some b→dB sv=some b ∨ b=nx∧nx'=nx + 1)→av P dm l (aP T d sv') H' nx' K) :
    av P dm (⟨d,none,.app sz bytes s x⟩ :: l) T H nx K:=by
 cases hrow with
 | nil =>
  refine oC hd hs hx hsrc ho (by simpa using h1) (by simpa using h2) ?_;exact next _ _ _ (.box nx k new aj hk) (Nat.le_succ _) (aO _) (fun i hi _=>ah (by omega)) (fun b hb=>by cases hb; exact .inr ⟨rfl,rfl⟩)
 | box b len cs hb hl =>
  have hle:len ≤ cs.length:=by rw [hl]; exact Nat.le_mul_of_pos_right _ hz
  have hb1:(len + k) * bytes ≤ 140737488355328:=eX (jL _ (by omega)) h1;refine Cw hd hs hb hx hsrc ho hl rfl hb1 (by omega) ?_;exact next _ _ _ (.box b (len + k) (cs ++ new) aj (by rw [dl,hl,hk,eM])) (aO _) (Nat.le_succ _) (fun i hi hne=>ah (fun e=>hne (by rw [e]; rfl))) (fun b' hb'=>by cases hb'; exact .inl rfl)
theorem Row.snap {H:Hp} {sz:Nat} {s:AV} {elems:List AV} (h:Row H sz s (elems.flatMap AV.cells)) (hc:∀ y ∈ elems,y.cells.length=sz) (hz:0 < sz) (hd:∀ y ∈ elems,∀ c ∈ y.cells,Dat c):Snap H s (.sl sz elems):=by
 obtain ⟨f1,f2⟩:=dS elems hc;generalize he:elems.flatMap AV.cells=cs at h;cases h with
 | nil =>
  have:elems.length * sz=0:=by rw [← f1,he]; rfl
  have:elems=[]:=fE.1 (by
   rcases Nat.mul_eq_zero.1 this with h | h
   ·exact h
   ·omega)
  subst this; exact .eslsl sz
 | box b len cs hb hl =>
  have hlen:elems.length=len:=Nat.eq_of_mul_eq_mul_right hz (by rw [← f1,he,hl]);refine .msl b (len * sz) sz 0 len cs elems hb hl (by omega) hlen hc (fun i j y a c hy hc' ha=>?_);have hj:j < sz:=by rw [← hc y (fx hy)]; exact (bD.1 hc').1
  have key:∀ (l:List AV) (i j:Nat) (y c:AV),(∀ z ∈ l,z.cells.length=sz)→l[i]?=some y→y.cells[j]?=some c→j < sz→(l.flatMap AV.cells)[i * sz + j]?=some c:=by
   intro l
   induction l with
   | nil=>intro i j y c _ h; simp at h
   | cons x l ih =>
    intro i j y c hl hy hc hj;rw [rY];cases i with
    | zero =>
     simp at hy; subst hy;rw [ol,b0,fY (by rw [hl x (by simp)]; exact hj)]; exact hc
    | succ i =>
     rw [gJ (by rw [hl x (by simp),eM]; omega),hl x (by simp)];have:=ih i j y c (fun z hz=>hl z (by simp [hz])) (by simpa using hy) hc hj;rw [← this]; congr 1; rw [eM]; omega
  have:=key elems i j y c hc hy hc' hj;rw [he,← b0 (i * sz)] at this;rw [this] at ha; cases ha;exact hd y (fx hy) a (fx hc') H
theorem gp {α:Type} {f:α→AV} (h:∀ x,(f x).cells=[f x]) (l:List α):(l.map f).flatMap AV.cells=l.map f:=by
 induction l with
 | nil=>rfl
 | cons a l ih=>rw [gv,rY,ih,h]; rfl
theorem Row.snapV {H:Hp} {s:AV} {l:List (List Int)} (h:Row H 1 s (l.map cu)):Snap H s (co l):=by
 refine Row.snap (elems:=l.map cu) (by rw [gp (fun _=>rfl)]; exact h) (fun y hy=>?_) mi (fun y hy c hc=>?_)
 ·simp at hy; obtain ⟨n,_,rfl⟩:=hy; rfl
 ·simp at hy; obtain ⟨n,_,rfl⟩:=hy;simp only [yh,fV] at hc; subst hc; exact fS n
theorem Row.snapI {H:Hp} {s:AV} {l:List Int} (h:Row H 1 s (l.map (AV.int .i64))):Snap H s (cu l):=by
 refine Row.snap (elems:=l.map (AV.int .i64)) (by rw [gp (fun _=>rfl)]; exact h) (fun y hy=>?_) mi (fun y hy c hc=>?_)
 ·simp at hy; obtain ⟨n,_,rfl⟩:=hy; rfl
 ·simp at hy; obtain ⟨n,_,rfl⟩:=hy;simp only [AY,fV] at hc; subst hc; exact .int
theorem bh {K:CP} {x y:C2} (M:SP) (h1:aW P x T H nx fun e T H nx=>bl e (M T H nx) (K e T H nx)) (h2:∀ T H nx,M T H nx→aW P y T H nx K):aW P (.seq x y) T H nx K:=by
 refine ef (dM x h1 (fun e T H nx h=>?_));cases e with
 | normal=>exact h2 T H nx h
 | exit i=>exact h
 | ret=>exact h
end Go.Abs
namespace Go.Abs
theorem Hv:(∀ l:List Int,(cu l).cells=[cu l])∧(∀ l:List (List Int),(co l).cells=[co l])∧(∀ x:Nat,bK x=none) ∧
    (∀ (α β:Type) (f:α→β) (a:α) (l:List α),(a :: l).map f=f a :: l.map f)∧(∀ (α β:Type) (f:α→β),([]:List α).map f=[])∧(∀ (α β:Type) (f:α→β) (a:α),(some a).map f=some (f a))∧(∀ (α β:Type) (f:α→β),(none:Option α).map f=none) ∧
    (∀ n:Nat,0 + n=n)∧(∀ n:Nat,n + 0=n)∧(∀ p:Prop,(p∧p)=p)∧(∀ p:Prop,(p∧True)=p)∧(∀ p:Prop,(True∧p)=p)∧((!true)=false)∧((!false)=true) ∧
    (∀ (α:Type) (a:α) (l m:List α),(a :: l) ++ m=a :: (l ++ m))∧(∀ (α:Type) (l:List α),[] ++ l=l)∧(∀ (α:Type) (l:List α),l ++ []=l) :=
 ⟨fun _=>rfl,fun _=>rfl,fun _=>rfl,fun _ _ _ _ _=>rfl,fun _ _ _=>rfl,fun _ _ _ _=>rfl,fun _ _ _=>rfl,b0,lL,and_self,and_true,true_and,rfl,rfl,fun _ _ _ _=>rfl,fun _ _=>rfl,fun _ l=>iJ l⟩
theorem zz (p:Prop):(p∧p)=p:=and_self p
theorem dh:(∀ (H:Hp) (b x:Nat) (cs:List AV),ao H b cs x=if x=b then some cs else H x)∧(∀ (H:Hp) (b x:Nat),cw H b x=if x=b then none else H x):=⟨fun _ _ _ _=>rfl,fun _ _ _=>rfl⟩
theorem dV:(∀ (H:Hp) (b:Nat) (cs:List AV),ao H b cs b=some cs)∧(∀ (H:Hp) (b x:Nat) (cs:List AV),x ≠ b→ao H b cs x=H x)∧(∀ (H:Hp) (b:Nat),cw H b b=none)∧(∀ (H:Hp) (b x:Nat),x ≠ b→cw H b x=H x)∧(∀ a b c:Nat,a + b + c=a + (b + c)) :=
 ⟨fun _ _ _=>aj,fun _ _ _ _ h=>ah h,fun _ _=>gm,fun _ _ _ h=>dX h,pR⟩
theorem ZA:((∀ l:List Int,(cu l).cells=[cu l])∧(∀ l:List (List Int),(co l).cells=[co l])∧(∀ x:Nat,bK x=none) ∧
    (∀ (α β:Type) (f:α→β) (a:α) (l:List α),(a :: l).map f=f a :: l.map f)∧(∀ (α β:Type) (f:α→β),([]:List α).map f=[])∧(∀ (α β:Type) (f:α→β) (a:α),(some a).map f=some (f a))∧(∀ (α β:Type) (f:α→β),(none:Option α).map f=none) ∧
    (∀ n:Nat,0 + n=n)∧(∀ n:Nat,n + 0=n)∧(∀ p:Prop,(p∧p)=p)∧(∀ p:Prop,(p∧True)=p)∧(∀ p:Prop,(True∧p)=p)∧((!true)=false)∧((!false)=true) ∧
    (∀ (α:Type) (a:α) (l m:List α),(a :: l) ++ m=a :: (l ++ m))∧(∀ (α:Type) (l:List α),[] ++ l=l)∧(∀ (α:Type) (l:List α),l ++ []=l)) ∧
    ((∀ (T:Tm) (n:Nat),ov T (.t n)=T n)∧(∀ (T:Tm) (v:AV),ov T (.c v)=v)∧(∀ (T:Tm) (d t:Nat) (v:AV),upd T d v t=if t=d then v else T t)∧(∀ (T:Tm) (d:Nat) (v:AV),aP T (some d) v=upd T d v) ∧
    (∀ (T:Tm) (v:AV),aP T none v=T)∧(∀ (x:AV) (l:List AV),T0 (x :: l) 0=x)∧(∀ (x:AV) (l:List AV) (n:Nat),T0 (x :: l) (n + 1)=T0 l n)∧(∀ n:Nat,T0 [] n=.undef) ∧
    (∀ (d t:Nat) (v:AV) (l:List (Nat × AV)),tl ((d,v) :: l) t=if t=d then v else tl l t)∧(∀ t:Nat,tl [] t=.undef) ∧
    (∀ (T:Tm) (t:Nat) (ts:List Nat) (x:AV) (xs:List AV),iY T (t :: ts) (x :: xs)=iY (upd T t x) ts xs)∧(∀ (T:Tm) (xs:List AV),iY T [] xs=T)) ∧
    ((∀ (T:Tm) (H:Hp) (x:Opd),br T H (.mov x)=some (ov T x)) ∧
    (∀ (T:Tm) (H:Hp) (c a b:Opd),br T H (.pick c a b)=match ov T c with | .bool t=>some (if t=true then ov T a else ov T b) | _=>none) ∧
    (∀ (T:Tm) (H:Hp) (a:Opd),br T H (.ld1 a)=rd1 H (ov T a))∧(∀ (T:Tm) (H:Hp) (k:Nat) (a:Opd),br T H (.ldn k a)=(rd H k (ov T a)).map .agg) ∧
    (∀ (T:Tm) (H:Hp) (op:BinOp) (tb tf:Bool) (x y:Opd),br T H (.bin op tb tf x y)=bf op tb tf (ov T x) (ov T y)) ∧
    (∀ (T:Tm) (H:Hp) (op:UnOp) (x:Opd),br T H (.un op x)=aun op (ov T x)) ∧
    (∀ (T:Tm) (H:Hp) (f:FuncId) (caps:List Opd),br T H (.mkfn f caps)=some (.func f (caps.map (ov T)))) ∧
    (∀ (T:Tm) (H:Hp) (k:Nat) (p:Opd),br T H (.fa k p)=j0 k (ov T p)) ∧
    (∀ (T:Tm) (H:Hp) (sz:Nat) (x i:Opd),br T H (.ixaS sz x i)=fg sz (ov T x) (ov T i)) ∧
    (∀ (T:Tm) (H:Hp) (x:Opd) (i:Nat),br T H (.ext x i)=gG (ov T x) i) ∧
    (∀ (T:Tm) (H:Hp) (x:Opd),br T H (.lenS x)=dK (ov T x)) ∧
    (∀ (T:Tm) (H:Hp) (z:List AV) (parts:List (Nat × Nat × Opd)),br T H (.bld z parts)=(eF z (parts.map fun p=>(p.1,p.2.1,ov T p.2.2))).map .agg) ∧
    (∀ (T:Tm) (H:Hp) (x:Opd) (l:List Opd),br T H (.mx x l)=gy ny (ov T x) (l.map (ov T))) ∧
    (∀ (T:Tm) (H:Hp) (x:Opd) (l:List Opd),br T H (.mn x l)=gy ns (ov T x) (l.map (ov T))) ∧
    (∀ (T:Tm) (H:Hp) (k:IntKind) (x:Opd),br T H (.conv k x)=nk (ov T x) fun n=>some (.int k (k.wrap n))) ∧
    (∀ (T:Tm) (H:Hp) (sz:Nat) (x:Opd) (lo hi mx:Option Opd),br T H (.sls sz x lo hi mx)=iW sz (ov T x) (lo.map (ov T)) (hi.map (ov T)) (mx.map (ov T))) ∧
    (∀ (T:Tm) (H:Hp) (off:Nat) (x:Opd),br T H (.part1 off x)=dU (ov T x) fun cs=>cs[off]?) ∧
    (∀ (T:Tm) (H:Hp) (op:BinOp) (ks:List TK) (x y:Opd),br T H (.binS op ks x y)=dU (ov T x) fun xs=>dU (ov T y) fun ys=>mJ op ks xs ys)) ∧
    ((∀ (T:Tm) (H:Hp) (n:Nat) (x:Opd) (lo hi:Option Opd),br T H (.slsA n x lo hi)=wH n (ov T x) (lo.map (ov T)) (hi.map (ov T)) none) ∧
    (∀ (T:Tm) (H:Hp) (f:FuncId) (l:List Opd),br T H (.mkbf f l)=some (.bfn f (l.map (ov T)))) ∧
    (∀ (T:Tm) (H:Hp) (x:Opd),br T H (.lenStr x)=p7 (ov T x)) ∧
    (∀ (T:Tm) (H:Hp) (x i:Opd),br T H (.ixStr x i)=mh (ov T x) (ov T i)) ∧
    (∀ (T:Tm) (H:Hp) (x:Opd) (lo hi:Option Opd),br T H (.slstr x lo hi)=uu (ov T x) (lo.map (ov T)) (hi.map (ov T))) ∧
    (∀ (T:Tm) (H:Hp) (off k:Nat) (x:Opd),br T H (.partn off k x)=dU (ov T x) fun cs=>if off + k ≤ cs.length then some (.agg ((cs.drop off).take k)) else none) ∧
    (∀ (T:Tm) (H:Hp) (n:Nat),br T H (.lenC n)=some (.int .i64 n)) ∧
    (∀ (s:ByteArray),p7 (.str s)=some (.int .i64 s.size)) ∧
    (∀ (s:ByteArray) (k:IntKind) (n:Int),mh (.str s) (.int k n)=if 0 ≤ n∧n < s.size then some (.int .u8 (s[n.toNat]?.getD 0).toNat) else none)) ∧
    ((∀ (k:IntKind) (a b:Int) (tb tf:Bool),bf .lss tb tf (.int k a) (.int k b)=some (.bool (decide (a < b))))∧(∀ (k:IntKind) (a b:Int) (tb tf:Bool),bf .leq tb tf (.int k a) (.int k b)=some (.bool (decide (a ≤ b)))) ∧
    (∀ (k:IntKind) (a b:Int) (tb tf:Bool),bf .gtr tb tf (.int k a) (.int k b)=some (.bool (decide (b < a))))∧(∀ (k:IntKind) (a b:Int) (tb tf:Bool),bf .geq tb tf (.int k a) (.int k b)=some (.bool (decide (b ≤ a)))) ∧
    (∀ (k:IntKind) (a b:Int) (tb tf:Bool),bf .eql tb tf (.int k a) (.int k b)=some (.bool (decide (a=b))))∧(∀ (k:IntKind) (a b:Int) (tb tf:Bool),bf .neq tb tf (.int k a) (.int k b)=some (.bool (decide (a ≠ b)))) ∧
    (∀ (k:IntKind) (a b:Int) (tb tf:Bool),bf .add tb tf (.int k a) (.int k b)=some (.int k (k.wrap (a + b))))∧(∀ (k:IntKind) (a b:Int) (tb tf:Bool),bf .sub tb tf (.int k a) (.int k b)=some (.int k (k.wrap (a - b)))) ∧
    (∀ (k:IntKind) (a b:Int) (tb tf:Bool),bf .mul tb tf (.int k a) (.int k b)=some (.int k (k.wrap (a * b)))) ∧
    (∀ (a b:Bool) (tf:Bool),bf .eql true tf (.bool a) (.bool b)=some (.bool (a == b)))∧(∀ (a b:Bool) (tf:Bool),bf .neq true tf (.bool a) (.bool b)=some (.bool (!(a == b)))) ∧
    (∀ tb:Bool,bf .eql tb true .nilf .nilf=some (.bool true))∧(∀ tb:Bool,bf .neq tb true .nilf .nilf=some (.bool false)) ∧
    (∀ (tb:Bool) (f:FuncId) (c:List AV),bf .eql tb true (.func f c) .nilf=some (.bool false))∧(∀ (tb:Bool) (f:FuncId) (c:List AV),bf .neq tb true (.func f c) .nilf=some (.bool true)) ∧
    (∀ b:Bool,aun .not (.bool b)=some (.bool (!b))) ∧
    (∀ (k:IntKind) (a b:Int),ny (.int k a) (.int k b)=some (.int k (max a b)))∧(∀ (k:IntKind) (a b:Int),ns (.int k a) (.int k b)=some (.int k (min a b))) ∧
    (∀ (f:AV→AV→Option AV) (x:AV),gy f x []=some x)∧(∀ (f:AV→AV→Option AV) (x y:AV) (l:List AV),gy f x (y :: l)=match f x y with | some z=>gy f z l | none=>none) ∧
    (∀ (k:Nat) (b n off:Nat),j0 k (.ptr b n off)=some (.ptr b n (off + k)))∧(∀ (k:Nat) (cs:List AV) (off:Nat),j0 k (.iptr cs off)=some (.iptr cs (off + k))) ∧
    (∀ (cs:List AV) (off:Nat),rd1 bK (.iptr cs off)=cs[off]?)) ∧
    ((∀ (H:Hp) (b n off:Nat),rd1 H (.ptr b n off)=match H b with | some cs=>if cs.length=n then cs[off]? else none | none=>none) ∧
    (∀ (H:Hp) (k b n off:Nat),rd H k (.ptr b n off)=match H b with | some cs=>if cs.length=n∧off + k ≤ n then some ((cs.drop off).take k) else none | none=>none) ∧
    (∀ (H:Hp) (cs:List AV) (off:Nat),rd1 H (.iptr cs off)=cs[off]?)∧(∀ (H:Hp) (cs:List AV) (off k:Nat),rd H k (.iptr cs off)=if off + k ≤ cs.length then some ((cs.drop off).take k) else none) ∧
    (∀ (l:List AV) (i:Nat),gG (.tup l) i=l[i]?)∧(∀ (l:List AV) (f:List AV→Option AV),dU (.agg l) f=f l)∧(∀ (k:IntKind) (n:Int) (f:Int→Option AV),nk (.int k n) f=f n) ∧
    (∀ (cs:List AV),eF cs []=some cs) ∧
    (∀ (cs:List AV) (off sz:Nat) (x:AV) (r:List (Nat × Nat × AV)),eF cs ((off,sz,x) :: r)=if AV.ones x.cells=true∧x.cells.length=sz∧off + sz ≤ cs.length then eF (bu cs off x.cells) r else none) ∧
    (∀ (b n sz off len:Nat),dK (.msl b n sz off len)=some (.int .i64 len))∧(dK .esl=some (.int .i64 0))∧(∀ (sz:Nat) (l:List AV),dK (.sl sz l)=some (.int .i64 l.length)) ∧
    (∀ (z:AV),be z 0=[])∧(∀ (z:AV) (n:Nat),be z (n + 1)=z.cells ++ be z n)) ∧
    ((∀ (a:AV) (l:List AV),(a :: l)[0]?=some a)∧(∀ (a:AV) (l:List AV) (n:Nat),(a :: l)[n + 1]?=l[n]?)∧(∀ (l:List AV),l.drop 0=l)∧(∀ (a:AV) (l:List AV) (n:Nat),(a :: l).drop (n + 1)=l.drop n)∧(∀ n:Nat,([]:List AV).drop n=[]) ∧
    (∀ (l:List AV),l.take 0=[])∧(∀ (a:AV) (l:List AV) (n:Nat),(a :: l).take (n + 1)=a :: l.take n)∧(∀ n:Nat,([]:List AV).take n=[])∧(∀ (l:List AV),[] ++ l=l)∧(∀ (l:List AV),l ++ []=l)∧(∀ (a:AV) (l m:List AV),(a :: l) ++ m=a :: (l ++ m)) ∧
    (∀ (cs:List AV) (off:Nat) (new:List AV),bu cs off new=cs.take off ++ new ++ cs.drop (off + new.length))∧(([]:List AV).length=0)∧(∀ (a:AV) (l:List AV),(a :: l).length=l.length + 1) ∧
    (∀ (k:IntKind) (n:Int),(AV.int k n).cells=[.int k n])∧(∀ b:Bool,(AV.bool b).cells=[.bool b])∧(∀ s:ByteArray,(AV.str s).cells=[.str s])∧(∀ (k:Nat) (l:List AV),(AV.sl k l).cells=[.sl k l])∧(∀ l:List AV,(AV.agg l).cells=l)∧(AV.esl.cells=[.esl])∧(AV.nilf.cells=[.nilf]) ∧
    (∀ (f:FuncId) (c:List AV),(AV.func f c).cells=[.func f c])∧(∀ (b n off:Nat),(AV.ptr b n off).cells=[.ptr b n off])∧(∀ (c:List AV) (off:Nat),(AV.iptr c off).cells=[.iptr c off])∧(∀ (b n sz off len:Nat),(AV.msl b n sz off len).cells=[.msl b n sz off len])∧(∀ b:Nat,(AV.yld b).cells=[.yld b])∧(∀ b:Nat,(AV.mp b).cells=[.mp b])∧(AV.nilp.cells=[.nilp])∧(∀ (f:FuncId) (c:List AV),(AV.bfn f c).cells=[.bfn f c])) ∧
    ((∀ (b:Bool) (x y:AV),(match (AV.bool b:AV) with | .bool t=>some (if t=true then x else y) | _=>none)=some (if b=true then x else y))) :=
 ⟨Hv,SA,SV,SV2,SN,SR,SL,fun _ _ _=>rfl⟩
theorem ZV:((AV.ones []=true)∧(∀ (a:AV) (l:List AV),AV.ones (a :: l)=(a.one && AV.ones l))∧(∀ (k:IntKind) (n:Int),(AV.int k n).one=true)∧(∀ b:Bool,(AV.bool b).one=true)∧(∀ s:ByteArray,(AV.str s).one=true)∧(∀ (k:Nat) (l:List AV),(AV.sl k l).one=true)∧(AV.esl.one=true)∧(AV.nilf.one=true) ∧
    (∀ (f:FuncId) (c:List AV),(AV.func f c).one=true)∧(∀ (b n off:Nat),(AV.ptr b n off).one=true)∧(∀ (c:List AV) (off:Nat),(AV.iptr c off).one=true)∧(∀ (b n sz off len:Nat),(AV.msl b n sz off len).one=true)∧(∀ b:Nat,(AV.yld b).one=true)∧(∀ b:Nat,(AV.mp b).one=true)∧(AV.nilp.one=true)∧(∀ l:List AV,l.all AV.one=AV.ones l))∧(∀ l:List Int,(cu l).one=true)∧(∀ l:List (List Int),(co l).one=true)∧(∀ b:Bool,(b && b)=b)∧((false=true)=False)∧(∀ a:Int,-9223372036854775808 ≤ a→a ≤ 9223372036854775807→IntKind.wrap .i64 a=a) ∧
    (∀ (l:List Int) (k:IntKind) (n:Int),fg 1 (cu l) (.int k n)=if 0 ≤ n∧n < l.length then some (.iptr [.int .i64 (l.getD n.toNat default)] 0) else none)∧(∀ (l:List (List Int)) (k:IntKind) (n:Int),fg 1 (co l) (.int k n)=if 0 ≤ n∧n < l.length then some (.iptr [cu (l.getD n.toNat default)] 0) else none) ∧
    (∀ l:List Int,dK (cu l)=some (.int .i64 l.length))∧(∀ l:List (List Int),dK (co l)=some (.int .i64 l.length))∧(∀ n:Nat,(n:Int).toNat=n)∧(∀ (α β:Type) (f:α→β) (l:List α),(l.map f).length=l.length) ∧
    (∀ (sz b m off len:Nat) (k:IntKind) (n:Int),fg sz (.msl b m sz off len) (.int k n)=if 0 ≤ n∧n < len then some (.ptr b m (off + n.toNat * sz)) else none)∧(∀ (α:Type) (_:Inhabited α) (f:α→AV) (l:List α) (k:Nat),k < l.length→(l.map f)[k]?=some (f (l.getD k default)))∧(∀ n:Nat,n * 1=n) :=
 ⟨SO,fun _=>rfl,fun _=>rfl,Bool.and_self,iI,fun _=>oO,fun _ _ _=>ln,fun _ _ _=>jR,fun _=>yw,fun _=>v6,bz,fun _ _ _ _=>cr _,fun _ _ _ _ _ _ _=>Cv,fun _ _ _ _ _ h=>getElem?_map_lt h,Nat.mul_one⟩
theorem ZG:((∀ (T:Tm) (n:Nat),ov T (.t n)=T n)∧(∀ (T:Tm) (v:AV),ov T (.c v)=v)∧(∀ (T:Tm) (d t:Nat) (v:AV),upd T d v t=if t=d then v else T t)∧(∀ (T:Tm) (d:Nat) (v:AV),aP T (some d) v=upd T d v) ∧
    (∀ (T:Tm) (v:AV),aP T none v=T)∧(∀ (x:AV) (l:List AV),T0 (x :: l) 0=x)∧(∀ (x:AV) (l:List AV) (n:Nat),T0 (x :: l) (n + 1)=T0 l n)∧(∀ n:Nat,T0 [] n=.undef) ∧
    (∀ (d t:Nat) (v:AV) (l:List (Nat × AV)),tl ((d,v) :: l) t=if t=d then v else tl l t)∧(∀ t:Nat,tl [] t=.undef) ∧
    (∀ (T:Tm) (t:Nat) (ts:List Nat) (x:AV) (xs:List AV),iY T (t :: ts) (x :: xs)=iY (upd T t x) ts xs)∧(∀ (T:Tm) (xs:List AV),iY T [] xs=T))∧(∀ a:Int,-9223372036854775808 ≤ a→a ≤ 9223372036854775807→IntKind.wrap .i64 a=a)∧(∀ a b:Nat,((a + b:Nat):Int)=(a:Int) + (b:Int))∧(((1:Nat):Int)=1)∧(((0:Nat):Int)=0)∧(∀ p:Prop,(p∧True)=p)∧(∀ p:Prop,(p∧p)=p) :=
 ⟨SA,fun _=>oO,Int.natCast_add,rfl,rfl,and_true,and_self⟩
end Go.Abs
namespace Go.Abs
theorem xe {P:Program} {b:C2} {T:Tm} {H:Hp} {nx:Nat} {K:CP} (L:Nat→List (Nat × AV)) (n:Nat) (p:Nat→Prop) (hT:agr T (L 0))
    (step:∀ k,k ≤ n→(∀ i,i < k→p i)→aW P b (tl (L k)) H nx fun e T H' nx'=>bl e (k < n∧p k∧agr T (L (k + 1))∧H'=H∧nx'=nx) (K e T H' nx')):bO (aW P b) T H nx K:=by
 refine pD (X:=Nat) L (fun k=>k ≤ n∧∀ i,i < k→p i) (fun k=>n - k) 0 ⟨cq _,fun i h=>(by omega)⟩ hT ?_;rintro k ⟨h1,h2⟩;refine dM b (step k h1 h2) (fun e T H' nx' h=>?_);cases e with
 | normal =>
  obtain ⟨g1,g2,g3,g4,g5⟩:=h;refine ⟨k + 1,⟨by omega,fun i hi=>?_⟩,by omega,g3,g4,g5⟩;rcases gI.1 hi with h | rfl
  ·exact h2 i h
  ·exact g2
 | exit i=>exact h
 | ret=>exact h
theorem jm {α:Type} [Inhabited α] {l:List α} {p:α→Bool} (h:∀ i,i < l.length→p (l.getD i default)=true):l.all p=true:=by
 rw [dL];intro x hx;obtain ⟨i,hi,e⟩:=jp hx;have:=h i hi
 rwa [show l.getD i default=x by simp [List.getD,hi,e]] at this
theorem ib {α:Type} [Inhabited α] {l:List α} {p:α→Bool} {k:Nat} (hk:k < l.length) (h:p (l.getD k default)=false):l.all p=false:=by
 rw [Bool.eq_false_iff,ne_eq,dL];intro hh;have:=hh _ (aB hk);rw [h] at this; cases this
theorem il {α:Type} [Inhabited α] {l:List α} {p:α→Bool} (h:∀ i,i < l.length→p (l.getD i default)=false):l.any p=false:=by
 rw [List.any_eq_false];intro x hx;obtain ⟨i,hi,e⟩:=jp hx;have:=h i hi;rw [show l.getD i default=x by simp [List.getD,hi,e]] at this;simp [this]
theorem BH {α:Type} [Inhabited α] [DecidableEq α] {l:List α} {v:α} {k:Nat} (hk:k < l.length) (h:l.getD k default=v):decide (v ∈ l)=true:=by
 rw [ux,← h]; exact aB hk
theorem Au {α:Type} [Inhabited α] [DecidableEq α] {l:List α} {v:α} (h:∀ i,i < l.length→l.getD i default ≠ v):decide (v ∈ l)=false:=by
 rw [decide_eq_false_iff_not];intro hm;obtain ⟨i,hi,e⟩:=jp hm;exact h i hi (by simp [List.getD,hi,e])
def g9 {α:Type} (sz:Nat) (f:α→AV) (l:List α):AV:=.sl sz (l.map f)
section
variable {α:Type} {sz:Nat} {f:α→AV} {l:List α}
theorem qg (h:∀ x ∈ l,∀ c ∈ (f x).cells,Dat c):Dat (g9 sz f l):=Dat.sl (fun x hx c hc=>by
 obtain ⟨y,hy,rfl⟩:=cL.1 hx;exact h y hy c hc)
theorem tH (hc:∀ x,(f x).cells=[f x]) (h:∀ x,Dat (f x)):Dat (g9 sz f l):=qg (fun x _ c hx=>by
 rw [hc,fV] at hx; subst hx; exact h x)
theorem nP [Inhabited α] {k:IntKind} {n:Int}:fg sz (g9 sz f l) (.int k n)=if 0 ≤ n∧n < l.length then some (.iptr (f (l.getD n.toNat default)).cells 0) else none:=qn
theorem mq:dK (g9 sz f l)=some (.int .i64 l.length):=oI
theorem uD {k:Nat} (h:k ≤ l.length):iW sz (g9 sz f l) none (some (.int .i64 k)) none=some (g9 sz f (l.take k)):=by
 simp [iW,bA,g9,h]
theorem jB {k:Nat} (h:k ≤ l.length):iW sz (g9 sz f l) (some (.int .i64 k)) none none=some (g9 sz f (l.drop k)):=by
 simp [iW,bA,g9,h];rw [fq (by simp)]
theorem zI {H:Hp} (hc:∀ x,(f x).cells=[f x]):ed 1 H (g9 1 f l)=some (l.length,l.map f):=by
 unfold g9; rw [tM,gp hc]; simp
theorem Row.snapL' {H:Hp} {s:AV} (h:Row H 1 s (l.map f)) (hc:∀ x,(f x).cells=[f x]) (hd:∀ x ∈ l,Dat (f x)):Snap H s (g9 1 f l):=by
 refine Row.snap (elems:=l.map f) (by rw [gp hc]; exact h) (fun y hy=>?_) mi (fun y hy c hx=>?_)
 ·obtain ⟨n,_,rfl⟩:=cL.1 hy; rw [hc]; rfl
 ·obtain ⟨n,hn,rfl⟩:=cL.1 hy;rw [hc,fV] at hx; subst hx; exact hd n hn
end
end Go.Abs
namespace Go.Abs
theorem fO {a:Int} (h1:0 ≤ a) (h2:a < 18446744073709551616):IntKind.wrap .u64 a=a:=by
 simp only [IntKind.wrap,IntKind.bits,IntKind.signed]; simp; omega
theorem rE {a:Int}:IntKind.wrap .u8 a=a % 256:=by
 simp only [IntKind.wrap,IntKind.bits,IntKind.signed]; simp
theorem t6 {k:IntKind} {a b:Nat} {tb tf:Bool} {k':IntKind} (hb:b ≤ k.bits):bf .shr tb tf (.int k a) (.int k' b)=some (.int k ((a / 2 ^ b:Nat):Int)):=by
 have h:¬ ((b:Int) < 0):=by omega
 simp only [bf,oD,h,if_false,or_true,if_true,bz,Nat.min_eq_left hb]
 congr 2
 rw [Int.fdiv_eq_ediv_of_nonneg _ (Int.le_of_lt (Int.pow_pos (by omega)))];simp
theorem Dh {k:IntKind} {a b:Nat} {tb tf:Bool} {k':IntKind} (hb:b ≤ k.bits) (h:a * 2 ^ b < 2 ^ (k.bits - 1)):bf .shl tb tf (.int k a) (.int k' b)=some (.int k ((a * 2 ^ b:Nat):Int)):=by
 have h0:¬ ((b:Int) < 0):=by omega
 simp only [bf,oD,h0,if_false,true_or,if_true,bz,Nat.min_eq_left hb]
 congr 2
 have e:(a:Int) * 2 ^ b=((a * 2 ^ b:Nat):Int):=by simp
 rw [e];generalize a * 2 ^ b=c at h;cases k <;> (simp only [IntKind.bits,IntKind.wrap,IntKind.signed] at h ⊢; simp at h ⊢; omega)
theorem ui {k:IntKind} {a b:Int} {tb tf:Bool} (ha:0 ≤ a) (hb:0 < b):bf .rem tb tf (.int k a) (.int k b)=some (.int k (a % b)):=by
 show (if (k=k) then eG .rem k a b else none)=_;rw [if_pos rfl];simp only [eG,if_neg (show ¬ b=0 by omega),Int.tmod_eq_emod_of_nonneg ha]
theorem gZ {a b:Int} {tb tf:Bool} (ha:0 ≤ a) (h2:a ≤ 9223372036854775807) (hb:0 < b):bf .quo tb tf (.int .i64 a) (.int .i64 b)=some (.int .i64 (a / b)):=by
 show (if (IntKind.i64=IntKind.i64) then eG .quo .i64 a b else none)=_;rw [if_pos rfl];have h3:0 ≤ a / b:=Int.ediv_nonneg ha (by omega);have h4:a / b ≤ a:=Int.ediv_le_self _ ha;simp only [eG,if_neg (show ¬ b=0 by omega),Int.tdiv_eq_ediv_of_nonneg ha];rw [oO (by omega) (by omega)]
theorem aF {P:Program} {T:Tm} {H:Hp} {nx:Nat} {K:SP} {l:List Op2} {d:Option Nat} {f:Opd} {args:List Opd} {g:FuncId} {caps xs:List AV} {R:AV→Hp→Nat→Prop} (hf:ov T f=.func g caps) (ha:args.map (ov T) ++ caps=xs) (hc:Fn P g xs H nx R)
    (k:∀ r H' nx',R r H' nx'→av P .text l (aP T d r) H' nx' K):av P .text (⟨d,none,.call f args⟩ :: l) T H nx K:=by
 subst ha;exact yg hf (Fn.mono hc k)
def Gx (l:List UInt8):AV:=.str ⟨l.toArray⟩
theorem Cg (l:List UInt8):Dat (Gx l):=.str
instance datI_encS {l:List UInt8}:DatI (Gx l):=⟨Cg l⟩
end Go.Abs
namespace Go.Abs
open Go.RowKit
variable {P:Program} {T:Tm} {H:Hp} {nx:Nat}
theorem aI {a b:Prop} (x:a) (y:b):a∧b:=⟨x,y⟩
theorem ev0 {α:Type} {a b:α} (h:a=b:=by (try simp only [dh,ZA,Nat.reduceEqDiff,↓reduceIte,Nat.reduceAdd,Nat.reduceLeDiff]); (try with_reducible rfl); first | done | fail):a=b:=h
theorem evZ {α:Type} {a b:α} (h:a=b:=by (try simp only [dh,ZA,Nat.reduceEqDiff,↓reduceIte,Nat.reduceAdd,Nat.reduceLeDiff,zz]); (try with_reducible rfl); first | done | fail):a=b:=h
theorem evY {α:Type} {a b:α} (h:a=b:=by (try simp (disch:=omega) only [dV,ZA,Nat.reduceEqDiff,↓reduceIte,Nat.reduceAdd,Nat.reduceLeDiff,zz]); (try with_reducible rfl); first | done | fail):a=b:=h
theorem ag0 {T:Tm} {l:List (Nat × AV)} (h:agr T l:=by simp (disch:=omega) only [agr,ZG,Nat.reduceEqDiff,↓reduceIte]; first | done | fail):agr T l:=h
theorem agZ {T:Tm} {l:List (Nat × AV)} (h:agr T l:=by simp (disch:=omega) only [agr,ZG,Nat.reduceEqDiff,↓reduceIte,zz]; first | done | fail):agr T l:=h
theorem vZ {dm:DM} {K:SP} {l:List Op2} {d:Option Nat} {i:Ins} {r:AV} (k:av P dm l (aP T d r) H nx K) (hi:ic i=.val:=by rfl) (hd:dm2 dm T i=true:=by rfl) (h:br T H i=some r:=by (try simp (disch:=omega) only [dh,ZA,Nat.reduceEqDiff,↓reduceIte,Nat.reduceAdd,Nat.reduceLeDiff,ZV,reduceCtorEq,zz]); first | with_reducible rfl | (apply BS; (focus omega); with_reducible rfl)):av P dm (⟨d,none,i⟩ :: l) T H nx K:=lZ hi hd h k
theorem cZ {dm:DM} {K:SP} {l:List Op2} {d:Option Nat} {f:Opd} {args:List Opd} {g:FuncId} {caps xs:List AV} {r:AV} (k:av P dm l (aP T d r) H nx K) (hf:ov T f=.func g caps:=by (try simp only [dh,ZA,Nat.reduceEqDiff,↓reduceIte,Nat.reduceAdd,Nat.reduceLeDiff,zz]); (try with_reducible rfl); first | done | fail) (ha:args.map (ov T) ++ caps=xs:=by (try simp only [dh,ZA,Nat.reduceEqDiff,↓reduceIte,Nat.reduceAdd,Nat.reduceLeDiff,zz]); (try with_reducible rfl); first | done | fail) (hp:Pure P g xs r) (hs:aS H xs xs r:=by (first | refine af ?_ rfl | apply ag); (repeat' (first | exact ae | apply am | (apply ai; (focus with_reducible assumption)))); first | done | fail):av P dm (⟨d,none,.call f args⟩ :: l) T H nx K:=zp hf ha hp hs k
theorem alZ {dm:DM} {K:SP} {l:List Op2} {d:Option Nat} {z:AV} {cs:List AV} (k:av P dm l (aP T d (.ptr nx cs.length 0)) (ao H nx cs) (nx + 1) K) (hd:dm2 dm T (.alloc z)=true:=by rfl) (hc:z.cells=cs:=by (try simp only [dh,ZA,Nat.reduceEqDiff,↓reduceIte,Nat.reduceAdd,Nat.reduceLeDiff,zz]); (try with_reducible rfl); first | done | fail) (ho:AV.ones cs=true:=by simp only [SO,Bool.and_self,gH,fI,zz]; first | done | fail):av P dm (⟨d,none,.alloc z⟩ :: l) T H nx K:=yS hd hc ho k
theorem bxZ {dm:DM} {K:SP} {l:List Op2} {d:Option Nat} {x:Opd} {v:AV} {cs:List AV} (k:av P dm l (aP T d (.ptr nx cs.length 0)) (ao H nx cs) (nx + 1) K) (hd:dm2 dm T (.box x)=true:=by rfl) (hx:ov T x=v:=by (try simp only [dh,ZA,Nat.reduceEqDiff,↓reduceIte,Nat.reduceAdd,Nat.reduceLeDiff,zz]); (try with_reducible rfl); first | done | fail) (hc:v.cells=cs:=by (try simp only [dh,ZA,Nat.reduceEqDiff,↓reduceIte,Nat.reduceAdd,Nat.reduceLeDiff,zz]); (try with_reducible rfl); first | done | fail) (ho:AV.ones cs=true:=by simp only [SO,Bool.and_self,gH,fI,zz]; first | done | fail):av P dm (⟨d,none,.box x⟩ :: l) T H nx K:=D8 hd hx hc ho k
theorem stZ {dm:DM} {K:SP} {l:List Op2} {d:Option Nat} {sz:Nat} {p x:Opd} {b n off:Nat} {v:AV} {cs vs:List AV} (k:av P dm l (aP T d (.tup [])) (ao H b (bu cs off vs)) nx K) (hd:dm2 dm T (.st sz p x)=true:=by rfl) (hp:ov T p=.ptr b n off:=by (try simp only [dh,ZA,Nat.reduceEqDiff,↓reduceIte,Nat.reduceAdd,Nat.reduceLeDiff,zz]); (try with_reducible rfl); first | done | fail) (hx:ov T x=v:=by (try simp only [dh,ZA,Nat.reduceEqDiff,↓reduceIte,Nat.reduceAdd,Nat.reduceLeDiff,zz]); (try with_reducible rfl); first | done | fail) (hb:H b=some cs:=by (try simp only [dh,ZA,Nat.reduceEqDiff,↓reduceIte,Nat.reduceAdd,Nat.reduceLeDiff,zz]); (try with_reducible rfl); first | done | fail) (hc:v.cells=vs:=by (try simp only [dh,ZA,Nat.reduceEqDiff,↓reduceIte,Nat.reduceAdd,Nat.reduceLeDiff,zz]); (try with_reducible rfl); first | done | fail) (ho:AV.ones vs=true:=by simp only [SO,Bool.and_self,gH,fI,zz]; first | done | fail) (hn:cs.length=n:=by (try simp only [SL,Nat.reduceAdd,Nat.reduceMul,cr]); first | done | omega) (hl:vs.length=sz:=by (try simp only [SL,Nat.reduceAdd,Nat.reduceMul,cr]); first | done | omega) (hf:off + sz ≤ n:=by (try simp only [SL,Nat.reduceAdd,Nat.reduceMul,cr]); first | done | omega):av P dm (⟨d,none,.st sz p x⟩ :: l) T H nx K:=Fw hd hp hx hb hc ho hn hl hf k
theorem blZ {dm:DM} {K:SP} {l:List Op2} {d:Option Nat} {sz len:Nat} {z:List AV} {parts:List (Nat × Nat × Opd)} {pv:List (Nat × Nat × AV)} {cs:List AV} (k:av P dm l (aP T d (.msl nx cs.length sz 0 len)) (ao H nx cs) (nx + 1) K) (hd:dm2 dm T (.bldS sz len z parts)=true:=by rfl) (hl:len ≠ 0:=by exact Nat.succ_ne_zero _) (hp:parts.map (fun p=>(p.1,p.2.1,ov T p.2.2))=pv:=by (try simp only [dh,ZA,Nat.reduceEqDiff,↓reduceIte,Nat.reduceAdd,Nat.reduceLeDiff,zz]); (try with_reducible rfl); first | done | fail) (hc:eF (be (.agg z) len) pv=some cs:=by (try simp only [dh,ZA,Nat.reduceEqDiff,↓reduceIte,Nat.reduceAdd,Nat.reduceLeDiff,SO,Bool.and_self,gH,fI,zz]); (try with_reducible rfl); first | done | fail):av P dm (⟨d,none,.bldS sz len z parts⟩ :: l) T H nx K:=DW hd hl hp hc k
theorem gTZ {dm:DM} {K:SP} {l:List Op2} {d:Option Nat} {i:Ins} {t:Nat} {w:Bool} (k:av P dm (⟨d,none,i⟩ :: l) T H nx K) (h:T t=.bool w:=by simp only [dh,ZA,Nat.reduceEqDiff,↓reduceIte,Nat.reduceAdd,Nat.reduceLeDiff,zz]; first | done | fail):av P dm (⟨d,some (t,w),i⟩ :: l) T H nx K:=Ft h k
theorem gFZ {dm:DM} {K:SP} {l:List Op2} {d:Option Nat} {i:Ins} {t:Nat} {w:Bool} (k:av P dm l (aP T d (.tup [])) H nx K) (h:T t=.bool (!w) ∨ T t=.tup []:=by simp only [dh,ZA,Nat.reduceEqDiff,↓reduceIte,Nat.reduceAdd,Nat.reduceLeDiff,or_true,true_or,zz]; first | done | fail):av P dm (⟨d,some (t,w),i⟩ :: l) T H nx K:=F5 h k
theorem cTZ {K:CP} {c:Opd} {x y:C2} (h1:aW P x T H nx K) (hc:ov T c=.bool true:=by simp only [dh,ZA,Nat.reduceEqDiff,↓reduceIte,Nat.reduceAdd,Nat.reduceLeDiff,zz]; first | done | fail):aW P (.cond c x y) T H nx K:=uB hc h1
theorem cFZ {K:CP} {c:Opd} {x y:C2} (h2:aW P y T H nx K) (hc:ov T c=.bool false:=by simp only [dh,ZA,Nat.reduceEqDiff,↓reduceIte,Nat.reduceAdd,Nat.reduceLeDiff,zz]; first | done | fail):aW P (.cond c x y) T H nx K:=uP hc h2
theorem r1Z {K:AV→Prop} {a:RV} {x:AV} (h:K x) (ha:rv T H a=some x:=by simp only [rv,dh,ZA,Nat.reduceEqDiff,↓reduceIte,Nat.reduceAdd,Nat.reduceLeDiff,zz]; with_reducible rfl):cK T H K [a]:=r_1 ha h
theorem r2Z {K:AV→Prop} {a b:RV} {x y:AV} (h:K (.tup [x,y])) (ha:rv T H a=some x:=by simp only [rv,dh,ZA,Nat.reduceEqDiff,↓reduceIte,Nat.reduceAdd,Nat.reduceLeDiff,zz]; with_reducible rfl) (hb:rv T H b=some y:=by simp only [rv,dh,ZA,Nat.reduceEqDiff,↓reduceIte,Nat.reduceAdd,Nat.reduceLeDiff,zz]; with_reducible rfl):cK T H K [a,b]:=r_2 ha hb h
theorem vY {dm:DM} {K:SP} {l:List Op2} {d:Option Nat} {i:Ins} {r:AV} (k:av P dm l (aP T d r) H nx K) (hi:ic i=.val:=by rfl) (hd:dm2 dm T i=true:=by first | rfl | (simp (disch:=omega) only [dm2,sk,v8,dV,ZA,Nat.reduceEqDiff,↓reduceIte,Nat.reduceAdd,Nat.reduceLeDiff,zz,fN]; first | done | omega)) (h:br T H i=some r:=by (try simp (disch:=omega) only [dV,ZA,Nat.reduceEqDiff,↓reduceIte,Nat.reduceAdd,Nat.reduceLeDiff,ZV,reduceCtorEq,zz]); first | with_reducible rfl | (apply BS; (focus omega); with_reducible rfl)):av P dm (⟨d,none,i⟩ :: l) T H nx K:=lZ hi hd h k
theorem nvY {S:Hp} {K:SP} {l:List (Op2 × Nat)} {d:Option Nat} {i:Ins} {r:AV} (k:bt P S l (aP T d r) H nx K) (h:br T S i=some r:=by (try simp (disch:=omega) only [dV,ZA,Nat.reduceEqDiff,↓reduceIte,Nat.reduceAdd,Nat.reduceLeDiff,ZV,reduceCtorEq,zz]); first | with_reducible rfl | (apply BS; (focus omega); with_reducible rfl)):bt P S ((⟨d,none,i⟩,0) :: l) T H nx K:=GQ h k
theorem cY {dm:DM} {K:SP} {l:List Op2} {d:Option Nat} {f:Opd} {args:List Opd} {g:FuncId} {caps xs:List AV} {r:AV} (k:av P dm l (aP T d r) H nx K) (hf:ov T f=.func g caps:=by (try simp (disch:=omega) only [dV,ZA,Nat.reduceEqDiff,↓reduceIte,Nat.reduceAdd,Nat.reduceLeDiff,zz]); (try with_reducible rfl); first | done | fail) (ha:args.map (ov T) ++ caps=xs:=by (try simp (disch:=omega) only [dV,ZA,Nat.reduceEqDiff,↓reduceIte,Nat.reduceAdd,Nat.reduceLeDiff,zz]); (try with_reducible rfl); first | done | fail) (hp:Pure P g xs r) (hs:aS H xs xs r:=by (first | refine af ?_ rfl | apply ag); (repeat' (first | exact ae | apply am | (apply ai; (focus with_reducible assumption)))); first | done | fail):av P dm (⟨d,none,.call f args⟩ :: l) T H nx K:=zp hf ha hp hs k
theorem alY {dm:DM} {K:SP} {l:List Op2} {d:Option Nat} {z:AV} {cs:List AV} (k:av P dm l (aP T d (.ptr nx cs.length 0)) (ao H nx cs) (nx + 1) K) (hd:dm2 dm T (.alloc z)=true:=by first | rfl | (simp (disch:=omega) only [dm2,sk,v8,dV,ZA,Nat.reduceEqDiff,↓reduceIte,Nat.reduceAdd,Nat.reduceLeDiff,zz,fN]; first | done | omega)) (hc:z.cells=cs:=by (try simp (disch:=omega) only [dV,ZA,Nat.reduceEqDiff,↓reduceIte,Nat.reduceAdd,Nat.reduceLeDiff,zz]); (try with_reducible rfl); first | done | fail) (ho:AV.ones cs=true:=by simp (disch:=omega) only [SO,Bool.and_self,gH,fI,zz]; first | done | fail):av P dm (⟨d,none,.alloc z⟩ :: l) T H nx K:=yS hd hc ho k
theorem bxY {dm:DM} {K:SP} {l:List Op2} {d:Option Nat} {x:Opd} {v:AV} {cs:List AV} (k:av P dm l (aP T d (.ptr nx cs.length 0)) (ao H nx cs) (nx + 1) K) (hd:dm2 dm T (.box x)=true:=by first | rfl | (simp (disch:=omega) only [dm2,sk,v8,dV,ZA,Nat.reduceEqDiff,↓reduceIte,Nat.reduceAdd,Nat.reduceLeDiff,zz,fN]; first | done | omega)) (hx:ov T x=v:=by (try simp (disch:=omega) only [dV,ZA,Nat.reduceEqDiff,↓reduceIte,Nat.reduceAdd,Nat.reduceLeDiff,zz]); (try with_reducible rfl); first | done | fail) (hc:v.cells=cs:=by (try simp (disch:=omega) only [dV,ZA,Nat.reduceEqDiff,↓reduceIte,Nat.reduceAdd,Nat.reduceLeDiff,zz]); (try with_reducible rfl); first | done | fail) (ho:AV.ones cs=true:=by simp (disch:=omega) only [SO,Bool.and_self,gH,fI,zz]; first | done | fail):av P dm (⟨d,none,.box x⟩ :: l) T H nx K:=D8 hd hx hc ho k
theorem stY {dm:DM} {K:SP} {l:List Op2} {d:Option Nat} {sz:Nat} {p x:Opd} {b n off:Nat} {v:AV} {cs vs:List AV} (k:av P dm l (aP T d (.tup [])) (ao H b (bu cs off vs)) nx K) (hd:dm2 dm T (.st sz p x)=true:=by first | rfl | (simp (disch:=omega) only [dm2,sk,v8,dV,ZA,Nat.reduceEqDiff,↓reduceIte,Nat.reduceAdd,Nat.reduceLeDiff,zz,fN]; first | done | omega)) (hp:ov T p=.ptr b n off:=by (try simp (disch:=omega) only [dV,ZA,Nat.reduceEqDiff,↓reduceIte,Nat.reduceAdd,Nat.reduceLeDiff,zz]); (try with_reducible rfl); first | done | fail) (hx:ov T x=v:=by (try simp (disch:=omega) only [dV,ZA,Nat.reduceEqDiff,↓reduceIte,Nat.reduceAdd,Nat.reduceLeDiff,zz]); (try with_reducible rfl); first | done | fail) (hb:H b=some cs:=by (try simp (disch:=omega) only [dV,ZA,Nat.reduceEqDiff,↓reduceIte,Nat.reduceAdd,Nat.reduceLeDiff,zz]); (try with_reducible rfl); first | done | fail) (hc:v.cells=vs:=by (try simp (disch:=omega) only [dV,ZA,Nat.reduceEqDiff,↓reduceIte,Nat.reduceAdd,Nat.reduceLeDiff,zz]); (try with_reducible rfl); first | done | fail) (ho:AV.ones vs=true:=by simp (disch:=omega) only [SO,Bool.and_self,gH,fI,zz]; first | done | fail) (hn:cs.length=n:=by (try simp only [SL,Nat.reduceAdd,Nat.reduceMul,cr]); first | done | omega) (hl:vs.length=sz:=by (try simp only [SL,Nat.reduceAdd,Nat.reduceMul,cr]); first | done | omega) (hf:off + sz ≤ n:=by (try simp only [SL,Nat.reduceAdd,Nat.reduceMul,cr]); first | done | omega):av P dm (⟨d,none,.st sz p x⟩ :: l) T H nx K:=Fw hd hp hx hb hc ho hn hl hf k
theorem blY {dm:DM} {K:SP} {l:List Op2} {d:Option Nat} {sz len:Nat} {z:List AV} {parts:List (Nat × Nat × Opd)} {pv:List (Nat × Nat × AV)} {cs:List AV} (k:av P dm l (aP T d (.msl nx cs.length sz 0 len)) (ao H nx cs) (nx + 1) K) (hd:dm2 dm T (.bldS sz len z parts)=true:=by first | rfl | (simp (disch:=omega) only [dm2,sk,v8,dV,ZA,Nat.reduceEqDiff,↓reduceIte,Nat.reduceAdd,Nat.reduceLeDiff,zz,fN]; first | done | omega)) (hl:len ≠ 0:=by exact Nat.succ_ne_zero _) (hp:parts.map (fun p=>(p.1,p.2.1,ov T p.2.2))=pv:=by (try simp (disch:=omega) only [dV,ZA,Nat.reduceEqDiff,↓reduceIte,Nat.reduceAdd,Nat.reduceLeDiff,zz]); (try with_reducible rfl); first | done | fail) (hc:eF (be (.agg z) len) pv=some cs:=by (try simp (disch:=omega) only [dV,ZA,Nat.reduceEqDiff,↓reduceIte,Nat.reduceAdd,Nat.reduceLeDiff,SO,Bool.and_self,gH,fI,zz]); (try with_reducible rfl); first | done | fail):av P dm (⟨d,none,.bldS sz len z parts⟩ :: l) T H nx K:=DW hd hl hp hc k
theorem b0Y {dm:DM} {K:SP} {l:List Op2} {d:Option Nat} {sz:Nat} {z:List AV} (k:av P dm l (aP T d .esl) H nx K) (hd:dm2 dm T (.bldS sz 0 z [])=true:=by first | rfl | (simp (disch:=omega) only [dm2,sk,v8,dV,ZA,Nat.reduceEqDiff,↓reduceIte,Nat.reduceAdd,Nat.reduceLeDiff,zz,fN]; first | done | omega)):av P dm (⟨d,none,.bldS sz 0 z []⟩ :: l) T H nx K:=E5 hd k
theorem gTY {dm:DM} {K:SP} {l:List Op2} {d:Option Nat} {i:Ins} {t:Nat} {w:Bool} (k:av P dm (⟨d,none,i⟩ :: l) T H nx K) (h:T t=.bool w:=by simp (disch:=omega) only [dV,ZA,Nat.reduceEqDiff,↓reduceIte,Nat.reduceAdd,Nat.reduceLeDiff,zz]; first | done | fail):av P dm (⟨d,some (t,w),i⟩ :: l) T H nx K:=Ft h k
theorem gFY {dm:DM} {K:SP} {l:List Op2} {d:Option Nat} {i:Ins} {t:Nat} {w:Bool} (k:av P dm l (aP T d (.tup [])) H nx K) (h:T t=.bool (!w) ∨ T t=.tup []:=by simp (disch:=omega) only [dV,ZA,Nat.reduceEqDiff,↓reduceIte,Nat.reduceAdd,Nat.reduceLeDiff,or_true,true_or,zz]; first | done | fail):av P dm (⟨d,some (t,w),i⟩ :: l) T H nx K:=F5 h k
theorem cTY {K:CP} {c:Opd} {x y:C2} (h1:aW P x T H nx K) (hc:ov T c=.bool true:=by simp (disch:=omega) only [dV,ZA,Nat.reduceEqDiff,↓reduceIte,Nat.reduceAdd,Nat.reduceLeDiff,zz]; first | done | fail):aW P (.cond c x y) T H nx K:=uB hc h1
theorem cFY {K:CP} {c:Opd} {x y:C2} (h2:aW P y T H nx K) (hc:ov T c=.bool false:=by simp (disch:=omega) only [dV,ZA,Nat.reduceEqDiff,↓reduceIte,Nat.reduceAdd,Nat.reduceLeDiff,zz]; first | done | fail):aW P (.cond c x y) T H nx K:=uP hc h2
theorem r1Y {K:AV→Prop} {a:RV} {x:AV} (h:K x) (ha:rv T H a=some x:=by simp (disch:=omega) only [rv,dV,ZA,Nat.reduceEqDiff,↓reduceIte,Nat.reduceAdd,Nat.reduceLeDiff,zz]; with_reducible rfl):cK T H K [a]:=r_1 ha h
theorem r2Y {K:AV→Prop} {a b:RV} {x y:AV} (h:K (.tup [x,y])) (ha:rv T H a=some x:=by simp (disch:=omega) only [rv,dV,ZA,Nat.reduceEqDiff,↓reduceIte,Nat.reduceAdd,Nat.reduceLeDiff,zz]; with_reducible rfl) (hb:rv T H b=some y:=by simp (disch:=omega) only [rv,dV,ZA,Nat.reduceEqDiff,↓reduceIte,Nat.reduceAdd,Nat.reduceLeDiff,zz]; with_reducible rfl):cK T H K [a,b]:=r_2 ha hb h
class StW (A:Prop) (B:outParam Prop):Prop where st:B→A
class StO (A:Prop) (B:outParam Prop):Prop where st:B→A
class StM (A:Prop) (B:outParam Prop):Prop where st:B→A
theorem zW {A B:Prop} [i:StW A B] (h:B):A:=i.st h
theorem zO {A B:Prop} [i:StO A B] (h:B):A:=i.st h
theorem zM {A B:Prop} [i:StM A B] (h:B):A:=i.st h
instance {K:CP} {x y:C2}:StW (aW P (.seq x y) T H nx K) (aW P x T H nx fun e T H nx=>bl e (aW P y T H nx K) (K e T H nx)):=⟨ef⟩
instance {K:CP} {i:Nat} {b:C2}:StW (aW P (.block i b) T H nx K) (aW P b T H nx fun e T H nx=>K (kP i e) T H nx):=⟨ff⟩
instance {K:CP} {b:C2}:StW (aW P (.loop b) T H nx K) (bO (aW P b) T H nx K):=⟨E9⟩
instance {K:CP}:StO (aW P .skip T H nx K) (K .normal T H nx):=⟨E8⟩
instance {K:CP} {i:Nat}:StO (aW P (.exit i) T H nx K) (K (.exit i) T H nx):=⟨Fi⟩
instance {K:CP}:StO (aW P .ret T H nx K) (K .ret T H nx):=⟨G8⟩
instance {K:CP} {l:List Op2}:StO (aW P (.ops 0 l) T H nx K) (av P .text l T H nx fun T H nx=>K .normal T H nx):=⟨EZ⟩
instance {K:CP} {l:List Op2}:StO (aW P (.ops 1 l) T H nx K) (av P .draw l T H nx fun T H nx=>K .normal T H nx):=⟨FS⟩
instance {K:CP} {l:List Op2}:StO (aW P (.ops 2 l) T H nx K) (av P (.fresh nx) l T H nx fun T H nx=>K .normal T H nx):=⟨EM⟩
instance {K:CP} {l:List Op2} {C:List Nat}:StO (aW P (.mix 1 l C) T H nx K) (av P .draw l T H nx fun T H nx=>K .normal T H nx):=⟨ot⟩
instance {K:CP} {l:List Op2} {C:List Nat}:StO (aW P (.mix 2 l C) T H nx K) (av P (.fresh nx) l T H nx fun T H nx=>K .normal T H nx):=⟨nW⟩
instance {dm:DM} {K:SP}:StO (av P dm [] T H nx K) (K T H nx):=⟨px⟩
instance {S:Hp} {K:SP}:StO (bt P S [] T H nx K) (K T H nx):=⟨DV⟩
instance {S:Hp} {K:SP} {l:List (Op2 × Nat)} {d:Option Nat} {i:Ins}:StO (bt P S ((⟨d,none,i⟩,2) :: l) T H nx K) (av P .text [⟨d,none,i⟩] T H nx fun T H nx=>bt P S l T H nx K):=⟨jY⟩
instance {K:AV→Prop}:StO (cK T H K []) (K (.tup [])):=⟨r_0⟩
instance {K:CP} {l:List Op2} {C:List (Nat × Nat)}:StM (aW P (.mixS 1 l C) T H nx K) (av P .draw l T H nx fun T H nx=>K .normal T H nx):=⟨De⟩
instance {K:CP} {l:List Op2} {C:List (Nat × Nat)}:StM (aW P (.mixS 2 l C) T H nx K) (av P (.fresh nx) l T H nx fun T H nx=>K .normal T H nx):=⟨CW⟩
class NZ (b w:Bool) (p q:outParam Prop):Prop where
 t:b=w→p
 f:b=!w→q
instance (priority:=10) {b:Bool}:NZ b true (b=true) (b=false):=⟨id,id⟩
instance (priority:=10) {b:Bool}:NZ b false (b=false) (b=true):=⟨id,id⟩
instance {p:Prop} {i:Decidable p}:NZ (decide p) true p (¬ p):=⟨o0,of_decide_eq_false⟩
instance {p:Prop} {i:Decidable p}:NZ (decide p) false (¬ p) p:=⟨of_decide_eq_false,o0⟩
instance (priority:=2000):NZ true true True False:=⟨fun _=>trivial,fun h=>by cases h⟩
instance (priority:=2000):NZ true false False True:=⟨fun h=>(by cases h),fun _=>trivial⟩
instance (priority:=2000):NZ false true False True:=⟨fun h=>(by cases h),fun _=>trivial⟩
instance (priority:=2000):NZ false false True False:=⟨fun _=>trivial,fun h=>by cases h⟩
instance (priority:=2000) {i:Decidable True}:NZ (decide True) true True False:=⟨fun _=>trivial,fun h=>of_decide_eq_false h trivial⟩
instance (priority:=2000) {i:Decidable True}:NZ (decide True) false False True:=⟨fun h=>of_decide_eq_false h trivial,fun _=>trivial⟩
instance (priority:=2000) {i:Decidable False}:NZ (decide False) true False True:=⟨o0,fun _=>trivial⟩
instance (priority:=2000) {i:Decidable False}:NZ (decide False) false True False:=⟨fun _=>trivial,o0⟩
instance {b w:Bool} {p q:Prop} [i:NZ b w p q]:NZ (!b) w q p:=⟨fun h=>i.f (by cases b <;> cases w <;> simp_all),fun h=>i.t (by cases b <;> cases w <;> simp_all)⟩
class StG (A:Prop) (v:outParam AV) (w:outParam Bool) (B C:outParam Prop):Prop where
 st:∀ b:Bool,v=.bool b→(b=w→B)→(b=!w→C)→A
instance {K:CP} {c:Opd} {x y:C2}:StG (aW P (.cond c x y) T H nx K) (ov T c) true (aW P x T H nx K) (aW P y T H nx K):=⟨fun _ h k1 k2=>xJ h k1 k2⟩
instance {dm:DM} {K:SP} {l:List Op2} {d:Option Nat} {i:Ins} {t:Nat}:StG (av P dm (⟨d,some (t,true),i⟩ :: l) T H nx K) (T t) true (av P dm (⟨d,none,i⟩ :: l) (upd T t (.bool true)) H nx K) (av P dm l (aP (upd T t (.bool false)) d (.tup [])) H nx K):=⟨fun _ h k1 k2=>G7 h k1 k2⟩
instance {dm:DM} {K:SP} {l:List Op2} {d:Option Nat} {i:Ins} {t:Nat}:StG (av P dm (⟨d,some (t,false),i⟩ :: l) T H nx K) (T t) false (av P dm (⟨d,none,i⟩ :: l) (upd T t (.bool false)) H nx K) (av P dm l (aP (upd T t (.bool true)) d (.tup [])) H nx K):=⟨fun _ h k1 k2=>G7 h k1 k2⟩
theorem zGZ {A:Prop} {v:AV} {w b:Bool} {B C p q:Prop} [i:StG A v w B C] [n:NZ b w p q] (k1:p→B) (k2:q→C) (h:v=.bool b:=by (try simp only [dh,ZA,Nat.reduceEqDiff,↓reduceIte,Nat.reduceAdd,Nat.reduceLeDiff,zz]); (try with_reducible rfl); first | done | fail):A:=i.st b h (fun h=>k1 (n.t h)) (fun h=>k2 (n.f h))
theorem zGY {A:Prop} {v:AV} {w b:Bool} {B C p q:Prop} [i:StG A v w B C] [n:NZ b w p q] (k1:p→B) (k2:q→C) (h:v=.bool b:=by (try simp (disch:=omega) only [dV,ZA,Nat.reduceEqDiff,↓reduceIte,Nat.reduceAdd,Nat.reduceLeDiff,zz]); (try with_reducible rfl); first | done | fail):A:=i.st b h (fun h=>k1 (n.t h)) (fun h=>k2 (n.f h))
end Go.Abs
namespace Go.Abs
open Go.RowKit
inductive PT (α:Type) where
 | leaf
 | node (v:Option α) (l r:PT α)
def PT.get {α:Type}:PT α→Nat→Option α
 | .leaf,_=>none
 | .node v l r,n=>match n with
  | 0=>v
  | n + 1=>match n % 2 with
   | 0=>l.get (n / 2)
   | _ + 1=>r.get (n / 2)
def PT.set {α:Type}:Nat→PT α→Nat→Option α→Option (PT α)
 | 0,_,_,_=>none
 | k + 1,t,n,x=>match t with
  | .leaf=>match n with
   | 0=>some (.node x .leaf .leaf)
   | n + 1=>match n % 2 with
    | 0=>match PT.set k .leaf (n / 2) x with
     | some l=>some (.node none l .leaf)
     | none=>none
    | _ + 1=>match PT.set k .leaf (n / 2) x with
     | some r=>some (.node none .leaf r)
     | none=>none
  | .node v l r=>match n with
   | 0=>some (.node x l r)
   | n + 1=>match n % 2 with
    | 0=>match PT.set k l (n / 2) x with
     | some l=>some (.node v l r)
     | none=>none
    | _ + 1=>match PT.set k r (n / 2) x with
     | some r=>some (.node v l r)
     | none=>none
theorem PT.get_even {α:Type} {v:Option α} {l r:PT α} {n:Nat} (h:n % 2=0):(PT.node v l r).get (n + 1)=l.get (n / 2):=by
 simp only [PT.get,h]
theorem PT.get_odd {α:Type} {v:Option α} {l r:PT α} {n:Nat} (h:n % 2=1):(PT.node v l r).get (n + 1)=r.get (n / 2):=by
 simp only [PT.get,h]
theorem PT.get_set {α:Type}:∀ (k:Nat) {t t':PT α} {n:Nat} {x:Option α},PT.set k t n x=some t'→∀ m,t'.get m=if m=n then x else t.get m
 | 0,_,_,_,_,h=>by cases h
 | k + 1,t,t',n,x,h=>by
  intro m;have two:∀ a:Nat,a % 2=0 ∨ a % 2=1:=fun a=>by omega
  cases t with
  | leaf =>
   cases n with
   | zero =>
    cases h;cases m with
    | zero=>rfl
    | succ m =>
     rw [if_neg (by omega)];rcases two m with e | e
     ·rw [get_even e]; rfl
     ·rw [get_odd e]; rfl
   | succ n =>
    rcases two n with en | en
    ·simp only [PT.set,en] at h;split at h
     ·rename_i l hl;cases h;have ih:=PT.get_set k hl;cases m with
      | zero=>rw [if_neg (by omega)]; rfl
      | succ m =>
       rcases two m with e | e
       ·rw [get_even e,ih];by_cases hh:m / 2=n / 2
        ·rw [if_pos hh,if_pos (by omega)]
        ·rw [if_neg hh,if_neg (by omega)]; rfl
       ·rw [get_odd e,if_neg (by omega)]; rfl
     ·cases h
    ·simp only [PT.set,en] at h;split at h
     ·rename_i l hl;cases h;have ih:=PT.get_set k hl;cases m with
      | zero=>rw [if_neg (by omega)]; rfl
      | succ m =>
       rcases two m with e | e
       ·rw [get_even e,if_neg (by omega)]; rfl
       ·rw [get_odd e,ih];by_cases hh:m / 2=n / 2
        ·rw [if_pos hh,if_pos (by omega)]
        ·rw [if_neg hh,if_neg (by omega)]; rfl
     ·cases h
  | node v l r =>
   cases n with
   | zero =>
    cases h;cases m with
    | zero=>rfl
    | succ m =>
     rw [if_neg (by omega)];rcases two m with e | e
     ·rw [get_even e,get_even e]
     ·rw [get_odd e,get_odd e]
   | succ n =>
    rcases two n with en | en
    ·simp only [PT.set,en] at h;split at h
     ·rename_i l' hl;cases h;have ih:=PT.get_set k hl;cases m with
      | zero=>rw [if_neg (by omega)]; rfl
      | succ m =>
       rcases two m with e | e
       ·rw [get_even e,ih,get_even e];by_cases hh:m / 2=n / 2
        ·rw [if_pos hh,if_pos (by omega)]
        ·rw [if_neg hh,if_neg (by omega)]
       ·rw [get_odd e,if_neg (by omega),get_odd e]
     ·cases h
    ·simp only [PT.set,en] at h;split at h
     ·rename_i l' hl;cases h;have ih:=PT.get_set k hl;cases m with
      | zero=>rw [if_neg (by omega)]; rfl
      | succ m =>
       rcases two m with e | e
       ·rw [get_even e,if_neg (by omega),get_even e]
       ·rw [get_odd e,ih,get_odd e];by_cases hh:m / 2=n / 2
        ·rw [if_pos hh,if_pos (by omega)]
        ·rw [if_neg hh,if_neg (by omega)]
     ·cases h
inductive BC where
 | cells (cs:List AV)
 | mark (e:Option AEx)
abbrev TT:=PT AV
abbrev HT:=PT BC
abbrev LV:=Nat→Option AEx→List AV
def bcL (L:LV) (n:Nat):Option BC→Option (List AV)
 | some (.cells cs)=>some cs
 | some (.mark e)=>some (L n e)
 | none=>none
def bc0:Option BC→Option (List AV)
 | some (.cells cs)=>some cs
 | _=>none
def toT (t:TT):Tm:=fun n=>(t.get n).getD .undef
def toH (L:LV) (t:HT):Hp:=fun n=>bcL L n (t.get n)
def dA (t:HT):Hp:=fun n=>bc0 (t.get n)
def LIM:Nat:=24
theorem cH {L:LV} {t:HT}:Sub (dA t) (toH L t):=fun b cs h=>by
 unfold dA at h;unfold toH;cases hg:t.get b with
 | none=>rw [hg] at h; cases h
 | some c =>
  rw [hg] at h;cases c with
  | cells x=>exact h
  | mark e=>cases h
theorem uJ {k:Nat} {T T':TT} {d:Nat} {v:AV} (h:PT.set k T d (some v)=some T'):toT T'=upd (toT T) d v:=by
 funext m
 simp only [toT,upd,PT.get_set k h];split <;> rfl
theorem gq {L:LV} {k:Nat} {H H':HT} {b:Nat} {cs:List AV} (h:PT.set k H b (some (.cells cs))=some H'):toH L H'=ao (toH L H) b cs:=by
 funext m
 simp only [toH,ao,PT.get_set k h];split <;> rfl
theorem nf {L:LV} {k:Nat} {H H':HT} {b:Nat} {e:Option AEx} (h:PT.set k H b (some (.mark e))=some H'):toH L H'=ao (toH L H) b (L b e):=by
 funext m
 simp only [toH,ao,PT.get_set k h];split
 ·rename_i hm; subst hm; rfl
 ·rfl
theorem tW {L:LV} {k:Nat} {H H':HT} {b:Nat} (h:PT.set k H b none=some H'):toH L H'=cw (toH L H) b:=by
 funext m
 simp only [toH,cw,PT.get_set k h];split <;> rfl
def stT (T:TT) (d:Option Nat) (v:AV):Option TT:=match d with
 | none=>some T
 | some d=>PT.set LIM T d (some v)
theorem mD {T T':TT} {d:Option Nat} {v:AV} (h:stT T d v=some T'):toT T'=aP (toT T) d v:=by
 cases d with
 | none=>cases h; rfl
 | some d=>exact uJ h
def jF:Nat→List AV→TT→Option TT
 | _,[],T=>some T
 | i,x :: l,T=>match PT.set LIM T i (some x) with
  | some T=>jF (i + 1) l T
  | none=>none
theorem l8:∀ (l:List AV) (i:Nat) {T T':TT},jF i l T=some T'→∀ m,toT T' m=if i ≤ m∧m < i + l.length then l.getD (m - i) .undef else toT T m
 | [],i,T,T',h,m=>by cases h; rw [if_neg (by simp only [ew]; omega)]
 | x :: l,i,T,T',h,m=>by
  simp only [jF] at h;split at h
  ·rename_i T1 h1;rw [l8 l (i + 1) h m,uJ h1];simp only [upd,cS];by_cases e:m=i
   ·subst e;rw [if_neg (by omega),if_pos rfl,if_pos (by omega)];simp
   ·by_cases e2:i + 1 ≤ m∧m < i + 1 + l.length
    ·rw [if_pos e2,if_pos (by omega)];obtain ⟨j,rfl⟩:∃ j,m=i + 1 + j:=⟨m - (i + 1),by omega⟩
     rw [show i + 1 + j - (i + 1)=j by omega,show i + 1 + j - i=j + 1 by omega];rfl
    ·rw [if_neg e2,if_neg e,if_neg (by omega)]
  ·cases h
def BV (l:List AV):Option TT:=jF 0 l .leaf
theorem zR {l:List AV} {T:TT} (h:BV l=some T):toT T=T0 l:=by
 funext m
 rw [l8 l 0 h m];simp only [T0,cq,true_and,b0,Nat.sub_zero];split
 ·rfl
 ·rename_i hm;have:l[m]?=none:=by simp; omega
  simp [List.getD,this,toT,PT.get]
def frN {α:Type} (n:Nat) (K:Nat→α):α:=match n with
 | 0=>K 0
 | m + 1=>K (m + 1)
def frI {α:Type} (n:Int) (K:Int→α):α:=match n with
 | .ofNat m=>frN m fun m=>K (.ofNat m)
 | .negSucc m=>frN m fun m=>K (.negSucc m)
def frV {α:Type} (x:AV) (K:AV→α):α:=match x with
 | .int k n=>frI n fun n=>K (.int k n)
 | .ptr b n off=>frN b fun b=>frN n fun n=>frN off fun off=>K (.ptr b n off)
 | .msl b n sz off len=>frN b fun b=>frN n fun n=>frN sz fun sz=>frN off fun off=>frN len fun len=>K (.msl b n sz off len)
 | x=>K x
def frL {α:Type}:List AV→(List AV→α)→α
 | [],K=>K []
 | x :: l,K=>frV x fun x=>frL l fun l=>K (x :: l)
theorem A4 {α:Type} {n:Nat} {K:Nat→α}:frN n K=K n:=by cases n <;> rfl
theorem EK {α:Type} {n:Int} {K:Int→α}:frI n K=K n:=by cases n <;> simp [frI,A4]
theorem oB {α:Type} {x:AV} {K:AV→α}:frV x K=K x:=by cases x <;> simp [frV,EK,A4]
theorem ku {α:Type}:∀ {l:List AV} {K:List AV→α},frL l K=K l
 | [],_=>rfl
 | x :: l,K=>by simp [frL,oB,ku]
def touch (T:Tm) (nx:Nat):Ins→Option Nat
 | .alloc _=>some nx
 | .box _=>some nx
 | .bldS _ len _ _=>if len=0 then none else some nx
 | .mks ..=>some nx
 | .st _ p _=>match ov T p with
  | .ptr b _ _=>some b
  | _=>none
 | .app _ _ s _=>match ov T s with
  | .esl=>some nx
  | .msl b _ _ _ _=>some b
  | _=>none
 | .apz ..=>some nx
 | _=>none
theorem rm {S H:Hp} (hs:Sub S H) {sz:Nat} {x:AV} {r:Nat × List AV} (h:ed sz S x=some r):ed sz H x=some r:=by
 cases x <;> simp only [ed] at h ⊢ <;> try (first | exact h | (cases h; done))
 rename_i b n sz' off len;split at h
 ·rename_i h0; rw [if_pos h0]; exact h
 ·rename_i h0;rw [if_neg h0];split at h
  ·rename_i cs hb;rw [hs b cs hb]; exact h
  ·cases h
theorem Ab {S H:Hp} (hs:Sub S H) {T:Tm} {i:Ins} {r:AV} (h:br T S i=some r):br T H i=some r:=by
 cases i <;> try exact h
 ·exact ub hs h
 ·rename_i k a;simp only [br] at h ⊢;cases hr:rd S k (ov T a) with
  | none=>rw [hr] at h; cases h
  | some l=>rw [hr] at h; rw [yt hs hr]; exact h
theorem mv {S H:Hp} (hs:Sub S H) {T:Tm} {a:RV} {r:AV} (h:rv T S a=some r):rv T H a=some r:=by
 cases a with
 | t n=>exact h
 | c1 n=>exact ub hs h
 | cn n k =>
  simp only [rv] at h ⊢;cases hr:rd S k (T n) with
  | none=>rw [hr] at h; cases h
  | some l=>rw [hr] at h; rw [yt hs hr]; exact h
theorem yj {T:Tm} {S S' H:Hp} (hs:Sub S H) {nx nx':Nat} {i:Ins} {r:AV} (h:gd T S nx i=some (r,S',nx')) :
    (touch T nx i=none→gd T H nx i=some (r,H,nx'))∧∀ b,touch T nx i=some b→∃ cs,S'=ao S b cs∧gd T H nx i=some (r,ao H b cs,nx'):=by
 cases i <;> simp only [gd] at h ⊢ <;> try (cases h; done)
 case alloc z =>
  unfold pO at h ⊢;split at h <;> cases h
  rename_i hz;rw [if_pos hz];exact ⟨fun h=>by simp [touch] at h,fun b h=>by simp [touch] at h; subst h; exact ⟨_,rfl,rfl⟩⟩
 case box x =>
  unfold pO at h ⊢;split at h <;> cases h
  rename_i hz;rw [if_pos hz];exact ⟨fun h=>by simp [touch] at h,fun b h=>by simp [touch] at h; subst h; exact ⟨_,rfl,rfl⟩⟩
 case bldS sz len z parts =>
  split at h
  ·rename_i hl;rw [if_pos hl];split at h <;> cases h
   rename_i hp;rw [if_pos hp];exact ⟨fun _=>rfl,fun b h=>by simp [touch,hl] at h⟩
  ·rename_i hl;rw [if_neg hl];split at h <;> cases h
   exact ⟨fun h=>by simp [touch,hl] at h,fun b h=>by simp [touch,hl] at h; subst h; exact ⟨_,rfl,rfl⟩⟩
 case mks sz bytes z l c =>
  split at h
  ·rename_i h1 h2;split at h <;> cases h
   rename_i hc;rw [if_pos hc];exact ⟨fun h=>by simp [touch] at h,fun b h=>by simp [touch] at h; subst h; exact ⟨_,rfl,rfl⟩⟩
  ·cases h
 case apz sz bytes z s x =>
  split at h
  ·rename_i h1 h2;split at h <;> cases h
   rename_i hc;rw [if_pos hc];exact ⟨fun h=>by simp [touch] at h,fun b h=>by simp [touch] at h; subst h; exact ⟨_,rfl,rfl⟩⟩
  ·cases h
 case st k p x =>
  split at h
  ·rename_i b n off hp;split at h
   ·rename_i cs hb;split at h <;> cases h
    rename_i hc;simp only [hs b cs hb];rw [if_pos hc];exact ⟨fun h=>by simp [touch,hp] at h,fun b h=>by simp [touch,hp] at h; subst h; exact ⟨_,rfl,rfl⟩⟩
   ·cases h
  ·cases h
 case app sz bytes s x =>
  unfold Cp at h ⊢;split at h
  ·cases h
  ·rename_i k new hsrc;rw [rm hs hsrc];simp only;split at h
   ·rename_i hone;rw [if_pos hone];split at h
    ·rename_i he;split at h <;> cases h
     rename_i hc;rw [if_pos hc];exact ⟨fun h=>by simp [touch,he] at h,fun b h=>by simp [touch,he] at h; subst h; exact ⟨_,rfl,rfl⟩⟩
    ·rename_i b n s' off len he;split at h
     ·rename_i cs hb;simp only [hs b cs hb];split at h
      ·rename_i hc;rw [if_pos hc];split at h
       ·rename_i hc2;rw [if_pos hc2];cases h;exact ⟨fun h=>by simp [touch,he] at h,fun b h=>by simp [touch,he] at h; subst h; exact ⟨_,rfl,rfl⟩⟩
       ·rename_i hc2;rw [if_neg hc2];split at h
        ·rename_i hc3;rw [if_pos hc3];cases h;exact ⟨fun h=>by simp [touch,he] at h,fun b h=>by simp [touch,he] at h; subst h; exact ⟨_,rfl,rfl⟩⟩
        ·rename_i hc3;rw [if_neg hc3];split at h <;> cases h
         rename_i hc4;rw [if_pos hc4];exact ⟨fun h=>by simp [touch,he] at h,fun b h=>by simp [touch,he] at h; subst h; exact ⟨_,rfl,rfl⟩⟩
      ·cases h
     ·cases h
    ·cases h
   ·cases h
def FM (T:TT) (H:HT) (nx:Nat) (i:Ins):Option (AV × HT × Nat) :=
 match gd (toT T) (dA H) nx i with
 | none=>none
 | some (r,H',nx')=>match touch (toT T) nx i with
  | none=>some (r,H,nx')
  | some b=>match H' b with
   | none=>none
   | some cs=>frL cs fun cs=>match PT.set LIM H b (some (.cells cs)) with
    | some H2=>some (r,H2,nx')
    | none=>none
theorem Dc {L:LV} {T:TT} {H H2:HT} {nx nx':Nat} {i:Ins} {r:AV} (h:FM T H nx i=some (r,H2,nx')):gd (toT T) (toH L H) nx i=some (r,toH L H2,nx'):=by
 unfold FM at h;split at h
 ·cases h
 ·rename_i r1 H1 nx1 he;obtain ⟨t1,t2⟩:=yj (cH (L:=L)) he;split at h
  ·rename_i ht;cases h;exact t1 ht
  ·rename_i b ht;obtain ⟨cs,rfl,e⟩:=t2 b ht;rw [show ao (dA H) b cs b=some cs from if_pos rfl] at h;simp only [ku] at h;split at h
   ·rename_i H3 hset;cases h;rw [e,gq hset]
   ·cases h
def lB:List AV→Option (List UInt8)
 | []=>some []
 | .int .u8 n :: l=>if 0 ≤ n∧n.toNat < 256 then (match lB l with | some bs=>some (UInt8.ofNat n.toNat :: bs) | none=>none) else none
 | _ :: _=>none
theorem rX:∀ {l:List AV} {bs:List UInt8},lB l=some bs→l=bs.map lO
 | [],bs,h=>by cases h; rfl
 | x :: l,bs,h=>by
  cases x <;> try (simp only [lB] at h; cases h; done)
  rename_i k n;cases k <;> try (simp only [lB] at h; cases h; done)
  simp only [lB] at h;split at h
  ·rename_i hn;split at h
   ·rename_i bs' hb;cases h;rw [gv,← rX hb]
    congr 1
    unfold lO;rw [UInt8.toNat_ofNat_of_lt' hn.2]
    congr 1
    omega
   ·cases h
  ·cases h
def rsp (T:Tm) (H:HT) (nx:Nat):Ins→Option (AV × HT × Nat)
 | .mkm h=>match h with
  | none=>match PT.set LIM H nx (some (.cells [.omap [] []])) with
   | some H'=>some (.mp nx,H',nx + 1)
   | none=>none
  | some x=>match ov T x with
   | .int _ _=>match PT.set LIM H nx (some (.cells [.omap [] []])) with
    | some H'=>some (.mp nx,H',nx + 1)
    | none=>none
   | _=>none
 | .mput k m key x=>match ov T m with
  | .mp b=>match H.get b with
   | some (.cells [.omap ks vs])=>if i6 k (ov T key)=true then match dv k (ov T key) ks with
       | some r=>frL (cI (ov T key) r ks) fun ks=>frL (fU (ov T x) r vs) fun vs=>match PT.set LIM H b (some (.cells [.omap ks vs])) with
        | some H'=>some (.tup [],H',nx)
        | none=>none
       | none=>none
    else none
   | _=>none
  | _=>none
 | .mget k z ok m key=>match ov T m with
  | .mp b=>match H.get b with
   | some (.cells [.omap ks vs])=>if i6 k (ov T key)=true then match dv k (ov T key) ks with
       | some r=>some (Go.Abs.mget z ok r vs,H,nx)
       | none=>none
    else none
   | _=>none
  | _=>none
 | .mplc k z m key=>match ov T m with
  | .mp b=>match H.get b with
   | some (.cells [.omap ks vs])=>if i6 k (ov T key)=true then match dv k (ov T key) ks with
       | some r=>frL (cI (ov T key) r ks) fun ks'=>frL (kC z r vs) fun vs'=>match PT.set LIM H b (some (.cells [.omap ks' vs'])) with
        | some H'=>some (.tup [xz z r vs,.int .i64 (vL r ks)],H',nx)
        | none=>none
       | none=>none
    else none
   | _=>none
  | _=>none
 | .mpst m s x=>match ov T m with
  | .mp b=>match H.get b with
   | some (.cells [.omap ks vs])=>match ov T s with
    | .int .i64 (.ofNat i)=>if i < ks.length then frL (vs.set i (ov T x)) fun vs'=>match PT.set LIM H b (some (.cells [.omap ks vs'])) with
     | some H'=>some (.tup [],H',nx)
     | none=>none
     else none
    | _=>none
   | _=>none
  | _=>none
 | .mlen m=>match ov T m with
  | .mp b=>match H.get b with
   | some (.cells [.omap ks vs])=>some (.int .i64 ks.length,H,nx)
   | _=>none
  | _=>none
 | .cpy sz d s=>match lV sz (ov T d) (ov T s) (dA H) with
  | none=>none
  | some (n,H')=>match n with
   | 0=>some (.int .i64 (0:Nat),H,nx)
   | n + 1=>match ov T d with
    | .msl b _ _ _ _=>match H' b with
     | some cs=>frL cs fun cs=>match PT.set LIM H b (some (.cells cs)) with
      | some H2=>some (.int .i64 (n + 1:Nat),H2,nx)
      | none=>none
     | none=>none
    | _=>none
 | .clr sz z x=>match iG sz z (ov T x) (dA H) with
  | none=>none
  | some H'=>match ov T x with
   | .msl b _ _ _ 0=>some (.tup [],H,nx)
   | .msl b _ _ _ (_ + 1)=>match H' b with
    | some cs=>frL cs fun cs=>match PT.set LIM H b (some (.cells cs)) with
     | some H2=>some (.tup [],H2,nx)
     | none=>none
    | none=>none
   | _=>none
 | .slp len sz x=>match ov T x with
  | .ptr b n off=>match H.get b with
   | some (.cells cs)=>if cs.length=n∧off + len * sz=n then some (.msl b n sz off len,H,nx) else none
   | _=>none
  | _=>none
 | .snil neg x=>match f0 (ov T x) with
  | some (k + 1)=>some (.bool neg,H,nx)
  | _=>none
 | .s2b x=>match ov T x with
  | .str bs=>if bs.size=0 then some (.sl 1 [],H,nx) else frL (bs.data.toList.map lO) fun cs=>match PT.set LIM H nx (some (.cells cs)) with
   | some H'=>some (.msl nx bs.size 1 0 bs.size,H',nx + 1)
   | none=>none
  | _=>none
 | .b2s x=>match ed 1 (dA H) (ov T x) with
  | some (n,l)=>match lB l with
   | some bs=>some (.str ⟨bs.toArray⟩,H,nx)
   | none=>none
  | none=>none
 | _=>none
theorem wJ {sz n:Nat} {d s:AV} {S S' H:Hp} (hs:Sub S H) (h:lV sz d s S=some (n,S')):(n=0→lV sz d s H=some (0,H))∧(n ≠ 0→∀ b m z o l,d=.msl b m z o l→∃ cs,S'=ao S b cs∧lV sz d s H=some (n,ao H b cs)):=by
 unfold lV at h ⊢;split at h
 ·rename_i ld ls h1 h2;split at h
  ·rename_i hm;rw [if_pos hm];cases h; exact ⟨fun _=>rfl,fun h=>absurd rfl h⟩
  ·rename_i hm;rw [if_neg hm];split at h
   ·split at h
    ·rename_i cs m new hb hsrc;simp only [hs _ _ hb,rm hs hsrc];split at h
     ·rename_i hc;rw [if_pos hc];cases h;refine ⟨fun h=>absurd h hm,fun _ b m z o l e=>?_⟩;cases e; exact ⟨_,rfl,rfl⟩
     ·cases h
    ·cases h
   ·cases h
 ·cases h
theorem uL {sz:Nat} {z x:AV} {S S' H:Hp} (hs:Sub S H) (h:iG sz z x S=some S'):∀ b m s o l,x=.msl b m s o l→(l=0→iG sz z x H=some H)∧(l ≠ 0→∃ cs,S'=ao S b cs∧iG sz z x H=some (ao H b cs)):=by
 intro b m s o l hx;subst hx;simp only [iG] at h ⊢;split at h
 ·rename_i h0;rw [if_pos h0];exact ⟨fun _=>rfl,fun h=>absurd h0 h⟩
 ·rename_i h0;rw [if_neg h0];refine ⟨fun h=>absurd h h0,fun _=>?_⟩;split at h
  ·rename_i cs hb;simp only [hs _ _ hb];split at h
   ·rename_i hc;rw [if_pos hc];cases h;exact ⟨_,rfl,rfl⟩
   ·cases h
  ·cases h
theorem jl {L:LV} {H:HT} {b:Nat} {cs:List AV} (h:H.get b=some (.cells cs)):toH L H b=some cs:=by
 simp only [toH,h,bcL]
theorem FV {L:LV} {T:Tm} {H H2:HT} {nx nx':Nat} {i:Ins} {r:AV} {K:AV→Hp→Nat→Prop} (h:rsp T H nx i=some (r,H2,nx')) (hK:K r (toH L H2) nx'):isp i T (toH L H) nx K:=by
 cases i <;> simp only [rsp] at h <;> try (cases h; done)
 case mkm x =>
  cases x with
  | none =>
   simp only at h;split at h
   ·rename_i H' hs;cases h;exact ⟨.inl rfl,.inl (by rw [gq hs] at hK; exact hK)⟩
   ·cases h
  | some x =>
   simp only at h;split at h
   ·rename_i k n hx;split at h
    ·rename_i H' hs;cases h;exact ⟨.inr ⟨x,k,n,rfl,hx⟩,.inl (by rw [gq hs] at hK; exact hK)⟩
    ·cases h
   ·cases h
 case mput k m key x =>
  split at h
  ·rename_i b hm;split at h
   ·rename_i ks vs hb;split at h
    ·rename_i hf;split at h
     ·rename_i r1 hr;simp only [ku] at h;split at h
      ·rename_i H' hs;cases h;exact .inl ⟨b,ks,vs,r1,hm,jl hb,hf,hr,by rw [gq hs] at hK; exact hK⟩
      ·cases h
     ·cases h
    ·cases h
   ·cases h
  ·cases h
 case mget k z ok m key =>
  split at h
  ·rename_i b hm;split at h
   ·rename_i ks vs hb;split at h
    ·rename_i hf;split at h
     ·rename_i r1 hr;cases h;exact .inl ⟨b,ks,vs,r1,hm,jl hb,hf,hr,hK⟩
     ·cases h
    ·cases h
   ·cases h
  ·cases h
 case mplc k z m key =>
  split at h
  ·rename_i b hm;split at h
   ·rename_i ks vs hb;split at h
    ·rename_i hf;split at h
     ·rename_i r1 hr;simp only [ku] at h;split at h
      ·rename_i H' hs;cases h;exact ⟨b,ks,vs,r1,hm,jl hb,hf,hr,by rw [gq hs] at hK; exact hK⟩
      ·cases h
     ·cases h
    ·cases h
   ·cases h
  ·cases h
 case mpst m s x =>
  split at h
  ·rename_i b hm;split at h
   ·rename_i ks vs hb;split at h
    ·rename_i i hi;split at h
     ·rename_i hlt;simp only [ku] at h;split at h
      ·rename_i H' hs;cases h;exact ⟨b,ks,vs,i,hm,jl hb,hi,hlt,by rw [gq hs] at hK; exact hK⟩
      ·cases h
     ·cases h
    ·cases h
   ·cases h
  ·cases h
 case mlen m =>
  split at h
  ·rename_i b hm;split at h
   ·rename_i ks vs hb;cases h;exact .inl ⟨b,ks,vs,hm,jl hb,hK⟩
   ·cases h
  ·cases h
 case cpy sz d s =>
  split at h
  ·cases h
  ·rename_i n H' hc;obtain ⟨t1,t2⟩:=wJ (cH (L:=L)) hc;split at h
   ·cases h;exact ⟨0,_,t1 rfl,hK⟩
   ·rename_i n;split at h
    ·rename_i b m z o l hd;obtain ⟨cs,rfl,e⟩:=t2 (Nat.succ_ne_zero _) _ _ _ _ _ hd;rw [show ao (dA H) b cs b=some cs from if_pos rfl] at h;simp only [ku] at h;split at h
     ·rename_i H3 hs;cases h;exact ⟨_,_,e,by rw [gq hs] at hK; exact hK⟩
     ·cases h
    ·cases h
 case clr sz z x =>
  split at h
  ·cases h
  ·rename_i H' hc;have ht:=uL (cH (L:=L)) hc;split at h
   ·rename_i b m s o hx;cases h;exact ⟨_,(ht _ _ _ _ _ hx).1 rfl,hK⟩
   ·rename_i b m s o l hx;obtain ⟨cs,rfl,e⟩:=(ht _ _ _ _ _ hx).2 (Nat.succ_ne_zero _);rw [show ao (dA H) b cs b=some cs from if_pos rfl] at h;simp only [ku] at h;split at h
    ·rename_i H3 hs;cases h;exact ⟨_,e,by rw [gq hs] at hK; exact hK⟩
    ·cases h
   ·cases h
 case slp len sz x =>
  split at h
  ·rename_i b n off hx;split at h
   ·rename_i cs hb;split at h
    ·rename_i hc;cases h;exact ⟨b,n,off,cs,hx,jl hb,hc.1,hc.2,hK⟩
    ·cases h
   ·cases h
  ·cases h
 case snil neg x =>
  split at h
  ·rename_i k hx;cases h;exact ⟨k + 1,hx,fun _=>hK,fun h=>absurd h (Nat.succ_ne_zero _)⟩
  ·cases h
 case s2b x =>
  split at h
  ·rename_i bs hx;split at h
   ·rename_i h0;cases h;exact ⟨bs,hx,fun _=>hK,fun h=>absurd h0 h⟩
   ·rename_i h0;simp only [ku] at h;split at h
    ·rename_i H' hs;cases h;exact ⟨bs,hx,fun h=>absurd h h0,fun _=>by rw [gq hs] at hK; exact hK⟩
    ·cases h
  ·cases h
 case b2s x =>
  split at h
  ·rename_i n l hx;split at h
   ·rename_i bs hb;cases h;exact ⟨n,bs,by rw [rm cH hx,rX hb],hK⟩
   ·cases h
  ·cases h
def di (f:AV→Option AV):List AV→Option (List AV)
 | []=>some []
 | x :: l=>match f x with
  | some y=>match di f l with
   | some m=>some (y :: m)
   | none=>none
  | none=>none
theorem db {f:AV→Option AV}:∀ {l m:List AV},di f l=some m→m.length=l.length∧∀ (i:Nat) (a c:AV),l[i]?=some a→m[i]?=some c→f a=some c
 | [],m,h=>by cases h; exact ⟨rfl,by simp⟩
 | x :: l,m,h=>by
  simp only [di] at h;split at h
  ·rename_i y hy;split at h
   ·rename_i m' hm;cases h;obtain ⟨h1,h2⟩:=db hm;refine ⟨by simp [h1],fun i a c ha hc=>?_⟩;cases i with
    | zero=>simp at ha hc; subst ha hc; exact hy
    | succ i=>exact h2 i a c (by simpa using ha) (by simpa using hc)
   ·cases h
  ·cases h
def mkE:List AV→AV
 | [.agg a]=>.agg [.agg a]
 | [c]=>c
 | cs=>.agg cs
theorem Av (cs:List AV):(mkE cs).cells=cs:=by
 rcases cs with _ | ⟨a,_ | ⟨b,l⟩⟩
 ·rfl
 ·cases a <;> rfl
 ·cases a <;> rfl
def nK (sz:Nat):Nat→List AV→List AV
 | 0,_=>[]
 | n + 1,ds=>mkE (ds.take sz) :: nK sz n (ds.drop sz)
theorem oK (sz:Nat):∀ (n:Nat) (ds:List AV),(nK sz n ds).length=n
 | 0,_=>rfl
 | n + 1,ds=>by simp [nK,oK]
theorem oE (sz:Nat):∀ (n:Nat) (ds:List AV),ds.length=n * sz→∀ (i:Nat) (y:AV),(nK sz n ds)[i]?=some y→y.cells.length=sz∧∀ (j:Nat) (c:AV),y.cells[j]?=some c→ds[i * sz + j]?=some c
 | 0,_,_,i,y,h=>by simp [nK] at h
 | n + 1,ds,hl,i,y,h=>by
  rw [eM,Nat.one_mul] at hl;cases i with
  | zero =>
   simp only [nK,sg,ki] at h;subst h;rw [Av];refine ⟨by rw [go]; omega,fun j c hc=>?_⟩;rw [ol,b0];rw [fX] at hc;split at hc
   ·exact hc
   ·cases hc
  | succ i =>
   simp only [nK,wT] at h;obtain ⟨h1,h2⟩:=oE sz n (ds.drop sz) (by rw [uS]; omega) i y h;refine ⟨h1,fun j c hc=>?_⟩;have:=h2 j c hc;rw [iX] at this;rw [← this]
   congr 1
   rw [eM]; omega
def Ce (f:AV→Option AV):AV→Option AV
 | .agg cs=>match di f cs with
  | some ds=>some (.agg ds)
  | none=>none
 | x=>match f x with
  | some (.agg _)=>none
  | some y=>some y
  | none=>none
theorem vq {f:AV→Option AV} {x y:AV} (h:Ce f x=some y):y.cells.length=x.cells.length∧∀ (j:Nat) (a b:AV),x.cells[j]?=some a→y.cells[j]?=some b→f a=some b:=by
 unfold Ce at h;split at h
 ·split at h
  ·rename_i hm;cases h;exact db hm
  ·cases h
 ·rename_i hna;have hx:x.cells=[x]:=by cases x <;> first | rfl | exact absurd rfl (hna _)
  split at h
  ·cases h
  ·rename_i y' hny hy;cases h;have hyc:y.cells=[y]:=by cases y <;> first | rfl | exact absurd hy (by intro hh; exact hny _ rfl)
   rw [hx,hyc];refine ⟨rfl,fun j a b ha hb=>?_⟩;cases j with
   | zero=>simp at ha hb; subst ha hb; exact hy
   | succ j=>simp at ha
  ·cases h
def snapV (H:Hp):Nat→AV→Option AV
 | 0,_=>none
 | k + 1,x=>match x with
  | .bool b=>some (.bool b)
  | .int k n=>some (.int k n)
  | .str s=>some (.str s)
  | .nilp=>some .nilp
  | .nilf=>some .nilf
  | .nilm=>some .nilm
  | .esl=>some .esl
  | .sl sz l=>match di (Ce (snapV H k)) l with
   | some m=>some (.sl sz m)
   | none=>none
  | .msl b n sz off len=>match len with
   | 0=>some (.sl sz [])
   | len + 1=>match H b with
    | some cs=>if cs.length=n∧off + (len + 1) * sz ≤ n then match di (snapV H k) ((cs.drop off).take ((len + 1) * sz)) with
        | some ds=>some (.sl sz (nK sz (len + 1) ds))
        | none=>none
     else none
    | none=>none
  | .ptr b n off=>match H b with
   | some cs=>if cs.length=n then match di (snapV H k) cs with
       | some ds=>some (.iptr ds off)
       | none=>none
    else none
   | none=>none
  | .iptr cs off=>match di (snapV H k) cs with
   | some ds=>some (.iptr ds off)
   | none=>none
  | .func f cs=>match di (snapV H k) cs with
   | some ds=>some (.func f ds)
   | none=>none
  | .agg cs=>match di (snapV H k) cs with
   | some ds=>some (.agg ds)
   | none=>none
  | .tup cs=>match di (snapV H k) cs with
   | some ds=>some (.tup ds)
   | none=>none
  | _=>none
theorem dF {S H:Hp} (hs:Sub S H):∀ (k:Nat) {x y:AV},snapV S k x=some y→Snap H x y
 | 0,_,_,h=>by cases h
 | k + 1,x,y,h=>by
  have ih:=@dF S H hs k
  have om:∀ {l m:List AV},di (snapV S k) l=some m→m.length=l.length∧∀ (i:Nat) (a c:AV),l[i]?=some a→m[i]?=some c→Snap H a c:=fun hm =>
   ⟨(db hm).1,fun i a c ha hc=>ih ((db hm).2 i a c ha hc)⟩
  cases x <;> simp only [snapV] at h <;> try (cases h; done)
  case bool=>cases h; exact .bool _
  case int=>cases h; exact .int _ _
  case str=>cases h; exact .str _
  case nilp=>cases h; exact .nilp
  case nilf=>cases h; exact .nilf
  case nilm=>cases h; exact .nilm
  case esl=>cases h; exact .esl
  case sl sz l =>
   split at h
   ·rename_i m hm;cases h;obtain ⟨h1,h2⟩:=db hm;exact .sl sz l m h1.symm (fun i x y hx hy=>(vq (h2 i x y hx hy)).1) (fun i j x y a b hx hy ha hb=>ih ((vq (h2 i x y hx hy)).2 j a b ha hb))
   ·cases h
  case msl b n sz off len =>
   split at h
   ·cases h; exact .mslnil _ _ _ _ _
   ·rename_i len;split at h
    ·rename_i cs hb;split at h
     ·rename_i hc;split at h
      ·rename_i ds hds;cases h;obtain ⟨h1,h2⟩:=om hds;have hdl:ds.length=(len + 1) * sz:=by rw [h1,go,uS]; omega
       have hg:=oE sz (len + 1) ds hdl;refine .msl b n sz off (len + 1) cs _ (hs _ _ hb) hc.1 hc.2 (oK _ _ _) (fun y hy=>?_) (fun i j y a c hy hc' ha=>?_)
       ·obtain ⟨i,hi⟩:=sJ hy;exact (hg i y hi).1
       ·obtain ⟨g1,g2⟩:=hg i y hy;have g3:=g2 j c hc';refine h2 (i * sz + j) a c ?_ g3
        have hlt:i * sz + j < (len + 1) * sz:=by
         rw [← hdl]; exact (bD.1 g3).1
        rw [fX,if_pos hlt,iX,← ha]
        congr 1; omega
      ·cases h
     ·cases h
    ·cases h
  case ptr b n off =>
   split at h
   ·rename_i cs hb;split at h
    ·rename_i hn;split at h
     ·rename_i ds hds;cases h;exact .ptr b n off cs ds (hs _ _ hb) hn (by rw [(om hds).1,hn]) (om hds).2
     ·cases h
    ·cases h
   ·cases h
  case iptr cs off =>
   split at h
   ·rename_i ds hds;cases h;exact .iptr cs ds off (om hds).1 (om hds).2
   ·cases h
  case func f cs =>
   split at h
   ·rename_i ds hds;cases h;exact .func f cs ds (om hds).1 (om hds).2
   ·cases h
  case agg cs =>
   split at h
   ·rename_i ds hds;cases h;exact .agg cs ds (om hds).1 (om hds).2
   ·cases h
  case tup cs =>
   split at h
   ·rename_i ds hds;cases h;exact .tup cs ds (om hds).1 (om hds).2
   ·cases h
theorem Snap.self {H H':Hp} {x y:AV} (h:Snap H x y):Snap H' y y:=by
 induction h with
 | bool b=>exact .bool _
 | int k n=>exact .int _ _
 | str s=>exact .str _
 | nilp=>exact .nilp
 | nilf=>exact .nilf
 | nilm=>exact .nilm
 | esl=>exact .esl
 | eslsl sz=>exact .slnil _ _
 | sl sz l l' hl hc h ih =>
  refine .sl sz l' l' rfl (fun i x y hx hy=>by rw [hx] at hy; cases hy; rfl) (fun i j x y a b hx hy ha hb=>?_);rw [hx] at hy; cases hy;rw [ha] at hb; cases hb;have hlt:i < l.length:=by rw [hl]; exact (bD.1 hx).1
  have hz:l[i]?=some l[i]:=by simp [hlt]
  have hcl:=hc i _ _ hz hx;have hj:j < l[i].cells.length:=by rw [← hcl]; exact (bD.1 ha).1
  exact ih i j l[i] x l[i].cells[j] a hz hx (by simp [hj]) ha
 | slnil sz sz'=>exact .slnil _ _
 | msl b n sz off len cs l' hb hn hfit hl hc h ih =>
  refine .sl sz l' l' rfl (fun i x y hx hy=>by rw [hx] at hy; cases hy; rfl) (fun i j x y a c hx hy ha hc'=>?_);rw [hx] at hy; cases hy;rw [ha] at hc'; cases hc';have hi:i < len:=by rw [← hl]; exact (bD.1 hx).1
  have hj:j < sz:=by rw [← hc x (fx hx)]; exact (bD.1 ha).1
  have hlt:off + i * sz + j < cs.length:=by
   have:(i + 1) * sz ≤ len * sz:=jL _ hi;rw [eM] at this; omega
  exact ih i j x cs[off + i * sz + j] a hx ha (by simp [hlt])
 | mslnil b n sz off sz'=>exact .slnil _ _
 | ptr b n off cs cs' hb hn hl h ih =>
  refine .iptr cs' cs' off rfl (fun i a c ha hc=>?_);rw [ha] at hc; cases hc;have hlt:i < cs.length:=by rw [hn,← hl]; exact (bD.1 ha).1
  exact ih i cs[i] a (by simp [hlt]) ha
 | iptr cs cs' off hl h ih =>
  refine .iptr cs' cs' off rfl (fun i a c ha hc=>?_);rw [ha] at hc; cases hc;have hlt:i < cs.length:=by rw [← hl]; exact (bD.1 ha).1
  exact ih i cs[i] a (by simp [hlt]) ha
 | func f cs cs' hl h ih =>
  refine .func f cs' cs' rfl (fun i a c ha hc=>?_);rw [ha] at hc; cases hc;have hlt:i < cs.length:=by rw [← hl]; exact (bD.1 ha).1
  exact ih i cs[i] a (by simp [hlt]) ha
 | agg cs cs' hl h ih =>
  refine .agg cs' cs' rfl (fun i a c ha hc=>?_);rw [ha] at hc; cases hc;have hlt:i < cs.length:=by rw [← hl]; exact (bD.1 ha).1
  exact ih i cs[i] a (by simp [hlt]) ha
 | tup cs cs' hl h ih =>
  refine .tup cs' cs' rfl (fun i a c ha hc=>?_);rw [ha] at hc; cases hc;have hlt:i < cs.length:=by rw [← hl]; exact (bD.1 ha).1
  exact ih i cs[i] a (by simp [hlt]) ha
theorem Fn.of_pureZ {P:Program} {f:FuncId} {args args':List AV} {r:AV} (hp:Pure P f args' r) {H Hf H':Hp} {nx:Nat} (hsub:∀ b cs,Hf b=some cs→H b=some cs) (hH:∀ b cs,H' b=some cs→H b=some cs∧Hf b=none) (hs:bg Hf args args')
    {R:AV→Hp→Nat→Prop} (hR:R r H' nx):Fn P f args H nx R:=by
 refine ⟨hp.1,fun E w vs hE hh hfr hv=>?_⟩
 have hsim:Sim E { n:=vs.length } ⟨T0 args,H,nx⟩ { tmps:=vs.toArray,defers:=[] } w:=by
  refine ⟨hE,hh,hfr,fun l hl=>(by cases hl),cq _,by simp,fun t=>?_,⟨sH,fun d hd=>(by cases hd)⟩⟩;show Rel E w (T0 args t) (vs.toArray.getD t Go.undef);by_cases ht:t < args.length
  ·have h1:args[t]?=some args[t]:=by simp [ht]
   have h2:vs[t]?=some (vs[t]'(by rw [hv.1]; exact ht)):=by simp [hv.1,ht]
   have:=hv.2 t _ _ h1 h2;have e1:T0 args t=args[t]:=by simp [T0,List.getD,ht]
   have e2:vs.toArray.getD t Go.undef=vs[t]'(by rw [hv.1]; exact ht):=by simp [Array.getD,hv.1,ht]
   rw [e1,e2]; exact this
  ·have e1:T0 args t=.undef:=by simp [T0,List.getD,ht]
   rw [e1]; exact .undef _
 have hg:Gh (T0 args) H nx (T0 args') H' nx Hf:=by
  refine ⟨hsub,aO _,fun b cs' hb=>?_,fun t=>?_⟩
  ·obtain ⟨h1,h2⟩:=hH b cs' hb;exact .inl ⟨cs',h1,h2,rfl,fun i x x' hx hx'=>.inl (by rw [hx] at hx'; cases hx'; rfl)⟩
  ·by_cases ht:t < args.length
   ·have h1:args[t]?=some args[t]:=by simp [ht]
    have h2:args'[t]?=some (args'[t]'(by rw [hs.1]; exact ht)):=by simp [hs.1,ht]
    have:=hs.2 t _ _ h1 h2;have e1:T0 args t=args[t]:=by simp [T0,List.getD,ht]
    have e2:T0 args' t=args'[t]'(by rw [hs.1]; exact ht):=by simp [T0,List.getD,hs.1,ht]
    right; right; left;rw [e1,e2]; exact this
   ·left;simp [T0,List.getD,hs.1,ht]
 obtain ⟨E',he,hsim'⟩:=hsim.ghost hg
 have hself:bg bK args' args':=⟨rfl,fun i x y hx hy=>by
  rw [hx] at hy; cases hy;have hlt:i < args.length:=by rw [← hs.1]; exact (bD.1 hx).1
  exact (hs.2 i args[i] x (by simp [hlt]) hx).self⟩
 have hv':du E' w args' vs:=by
  refine ⟨by rw [hv.1,hs.1],fun i x v hx hvi=>?_⟩;have hlt:i < vs.length:=(bD.1 hvi).1;have hla:i < args'.length:=(bD.1 hx).1;have:=hsim'.tmps i
  have e1:T0 args' i=x:=by
   have:=(bD.1 hx).2;simp [T0,List.getD,hx]
  have e2:vs.toArray.getD i Go.undef=v:=by
   have:=(bD.1 hvi).2;simp [Array.getD,hlt,this]
  simp only at this;rw [e1,e2] at this;exact this
 refine ((Fn.of_pure hp (.inl hself) (H:=H') (nx:=nx) (R:=R) hR).2 E' w vs hsim'.env hsim'.heap hsim'.fresh hv').mono ?_;rintro e w' ⟨v,E2,r2,H2,nx2,k1,k2,k3,k4,k5,k6,k7⟩;exact ⟨v,E2,r2,H2,nx2,k1,he.trans k2,k3,k4,k5,k6,k7⟩
def i7 (H:Hp):Nat→AV→Option AV
 | 0,_=>none
 | k + 1,x=>match x with
  | .bool b=>some (.bool b)
  | .int k n=>some (.int k n)
  | .str s=>some (.str s)
  | .nilp=>some .nilp
  | .nilf=>some .nilf
  | .nilm=>some .nilm
  | .esl=>some .esl
  | .sl sz l=>match l with
   | []=>some (.sl sz [])
   | _ :: _=>none
  | .msl b n sz off len=>match len with
   | 0=>some (.sl sz [])
   | len + 1=>match H b with
    | some cs=>if cs.length=n∧off + (len + 1) * sz ≤ n then match di (i7 H k) ((cs.drop off).take ((len + 1) * sz)) with
        | some ds=>some (.sl sz (nK sz (len + 1) ds))
        | none=>none
     else none
    | none=>none
  | .ptr b n off=>match H b with
   | some cs=>if cs.length=n then match di (i7 H k) cs with
       | some ds=>some (.iptr ds off)
       | none=>none
    else none
   | none=>none
  | .func f cs=>match di (i7 H k) cs with
   | some ds=>some (.func f ds)
   | none=>none
  | .agg cs=>match di (i7 H k) cs with
   | some ds=>some (.agg ds)
   | none=>none
  | .tup cs=>match di (i7 H k) cs with
   | some ds=>some (.tup ds)
   | none=>none
  | _=>none
theorem oN {S H:Hp} (hs:Sub S H):∀ (k:Nat) {x y:AV},i7 S k x=some y→SnapF H x y
 | 0,_,_,h=>by cases h
 | k + 1,x,y,h=>by
  have ih:=@oN S H hs k
  have om:∀ {l m:List AV},di (i7 S k) l=some m→m.length=l.length∧∀ (i:Nat) (a c:AV),l[i]?=some a→m[i]?=some c→SnapF H a c:=fun hm =>
   ⟨(db hm).1,fun i a c ha hc=>ih ((db hm).2 i a c ha hc)⟩
  cases x <;> simp only [i7] at h <;> try (cases h; done)
  case bool=>cases h; exact .bool _
  case int=>cases h; exact .int _ _
  case str=>cases h; exact .str _
  case nilp=>cases h; exact .nilp
  case nilf=>cases h; exact .nilf
  case nilm=>cases h; exact .nilm
  case esl=>cases h; exact .esl
  case sl sz l =>
   split at h
   ·cases h; exact .slnil _ _
   ·cases h
  case msl b n sz off len =>
   split at h
   ·cases h; exact .mslnil _ _ _ _ _
   ·rename_i len;split at h
    ·rename_i cs hb;split at h
     ·rename_i hc;split at h
      ·rename_i ds hds;cases h;obtain ⟨h1,h2⟩:=om hds;have hdl:ds.length=(len + 1) * sz:=by rw [h1,go,uS]; omega
       have hg:=oE sz (len + 1) ds hdl;refine .msl b n sz off (len + 1) cs _ (hs _ _ hb) hc.1 hc.2 (oK _ _ _) (fun y hy=>?_) (fun i j y a c hy hc' ha=>?_)
       ·obtain ⟨i,hi⟩:=sJ hy;exact (hg i y hi).1
       ·obtain ⟨g1,g2⟩:=hg i y hy;have g3:=g2 j c hc';refine h2 (i * sz + j) a c ?_ g3
        have hlt:i * sz + j < (len + 1) * sz:=by
         rw [← hdl]; exact (bD.1 g3).1
        rw [fX,if_pos hlt,iX,← ha]
        congr 1; omega
      ·cases h
     ·cases h
    ·cases h
  case ptr b n off =>
   split at h
   ·rename_i cs hb;split at h
    ·rename_i hn;split at h
     ·rename_i ds hds;cases h;exact .ptr b n off cs ds (hs _ _ hb) hn (by rw [(om hds).1,hn]) (om hds).2
     ·cases h
    ·cases h
   ·cases h
  case func f cs =>
   split at h
   ·rename_i ds hds;cases h;exact .func f cs ds (om hds).1 (om hds).2
   ·cases h
  case agg cs =>
   split at h
   ·rename_i ds hds;cases h;exact .agg cs ds (om hds).1 (om hds).2
   ·cases h
  case tup cs =>
   split at h
   ·rename_i ds hds;cases h;exact .tup cs ds (om hds).1 (om hds).2
   ·cases h
end Go.Abs