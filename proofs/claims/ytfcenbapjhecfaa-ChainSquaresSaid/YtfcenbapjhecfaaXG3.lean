/- Texts of this claim, one after the other: AbsC1, AbsC2, AbsC3, AbsC4, AbsC5, AbsC6, AbsC7, AbsC8, AbsC9, AbsD1, AbsD2, AbsZ, AbsI, AbsI2, AbsO. -/
import Derived.Test.YtfcenbapjhecfaaXG2
import Derived.IntWalk
import Derived.ChangeArms
import Derived.Carry
import Derived.Deep.Slices
import Derived.Lib.SmallJoins

set_option linter.unusedSimpArgs false
set_option linter.unusedVariables false
namespace Go.Abs
open Go.RowKit
inductive Opd where
 | t (n:Nat)
 | c (v:AV)
 deriving Inhabited
def Opd.of:Operand→Opd
 | .tmp n=>.t n
 | x=>.c (ev (fun _=>.undef) x)
def ov (T:Tm):Opd→AV
 | .t n=>T n
 | .c v=>v
theorem a9 {T:Tm} {x:Operand}:ov T (.of x)=ev T x:=by cases x <;> rfl
theorem fG {T:Tm} {l:List Operand}:(l.map Opd.of).map (ov T)=l.map (ev T):=by simp [a9]
theorem jY {T:Tm} {x:Option Operand}:(x.map Opd.of).map (ov T)=x.map (ev T):=by cases x <;> simp [a9]
inductive Ins where
 | dead
 | mov (x:Opd)
 | pick (c a b:Opd)
 | ld1 (a:Opd)
 | ldn (k:Nat) (a:Opd)
 | nilck (x:Opd)
 | bin (op:BinOp) (tb tf:Bool) (x y:Opd)
 | binS (op:BinOp) (ks:List TK) (x y:Opd)
 | un (op:UnOp) (x:Opd)
 | conv (k:IntKind) (x:Opd)
 | mkfn (f:FuncId) (caps:List Opd)
 | mkbf (f:FuncId) (first:List Opd)
 | slsA (n:Nat) (x:Opd) (lo hi:Option Opd)
 | sls (sz:Nat) (x:Opd) (lo hi mx:Option Opd)
 | slstr (x:Opd) (lo hi:Option Opd)
 | fa (k:Nat) (p:Opd)
 | part1 (off:Nat) (x:Opd)
 | partn (off k:Nat) (x:Opd)
 | ixaA (len sz:Nat) (x i:Opd)
 | ixaS (sz:Nat) (x i:Opd)
 | ixA1 (len sz:Nat) (x i:Opd)
 | ixAn (len sz:Nat) (x i:Opd)
 | ixStr (x i:Opd)
 | ext (x:Opd) (i:Nat)
 | bld (z:List AV) (parts:List (Nat × Nat × Opd))
 | lenS (x:Opd)
 | capE (x:Opd)
 | apz (sz bytes:Nat) (z:List AV) (s x:Opd)
 | lenStr (x:Opd)
 | lenC (n:Nat)
 | mx (x:Opd) (l:List Opd)
 | mn (x:Opd) (l:List Opd)
 | alloc (z:AV)
 | box (x:Opd)
 | bldS (sz len:Nat) (z:List AV) (parts:List (Nat × Nat × Opd))
 | mks (sz bytes:Nat) (z:List AV) (l c:Opd)
 | st (k:Nat) (p x:Opd)
 | app (sz bytes:Nat) (s x:Opd)
 | call (f:Opd) (args:List Opd)
 | mkm (h:Option Opd)
 | mput (k:MK) (m key x:Opd)
 | mdel (k:MK) (m key:Opd)
 | mget (k:MK) (z:AV) (ok:Bool) (m key:Opd)
 | mlen (m:Opd)
 | mrng (m:Opd)
 | mnxt (it:Opd)
 | ment (it:Opd)
 | cpy (sz:Nat) (d s:Opd)
 | clr (sz:Nat) (z:AV) (x:Opd)
 | slp (len sz:Nat) (x:Opd)
 | snil (neg:Bool) (x:Opd)
 | s2b (x:Opd)
 | b2s (x:Opd)
 | mplc (k:MK) (z:AV) (m key:Opd)
 | mpst (m s x:Opd)
def tU (P:Program) (t:TypeId):Bool:=match P.underlying t with | some (.func ..)=>true | _=>false
def aZ (op:BinOp) (tb tf:Bool) (x y:AV):Option AV :=
 match x,y with
 | .int k a,.int k' b=>if op=.shl ∨ op=.shr then kq op k a b else if k=k' then cQ op k a b else none
 | .bool a,.bool b=>if tb=true then (match op with | .eql=>some (.bool (a == b)) | .neq=>some (.bool (!(a == b))) | _=>none) else none
 | .str a,.str b=>pK op a b
 | .nilf,.nilf=>if tf=true then (match op with | .eql=>some (.bool true) | .neq=>some (.bool false) | _=>none) else none
 | .func _ _,.nilf=>if tf=true then (match op with | .eql=>some (.bool false) | .neq=>some (.bool true) | _=>none) else none
 | _,_=>none
theorem wn {P:Program} {op:BinOp} {t:TypeId} {x y:AV} {r:AV} (h:aZ op (tL P t) (tU P t) x y=some r):t8 P op t x y=some r:=by
 unfold aZ at h
 unfold t8
 split at h
 ·exact h
 ·exact h
 ·exact h
 ·split at h
  ·rename_i hf
   unfold tU at hf
   split at hf
   ·rename_i hu; simp only [hu]
    split at h <;> simp_all
   ·cases hf
  ·cases h
 ·split at h
  ·rename_i hf
   unfold tU at hf
   split at hf
   ·rename_i hu; simp only [hu]
    split at h <;> simp_all
   ·cases hf
  ·cases h
 ·cases h
def cR (sz:Nat) (x i:AV):Option AV:=match i with
 | .int _ n=>match x with
  | .sl s elems=>if s=sz∧0 ≤ n∧n < elems.length then some (.iptr (elems.getD n.toNat .undef).cells 0) else none
  | .msl b m s off len=>if s=sz∧0 ≤ n∧n < len then some (.ptr b m (off + n.toNat * s)) else none
  | _=>none
 | _=>none
def ip (sz:Nat) (x:AV) (lo hi mx:Option AV):Option AV:=match x with
 | .sl s elems =>
  match bc 0 lo,bc elems.length hi,mx with
  | some l,some h,none=>if s=sz∧l ≤ h∧h ≤ elems.length then some (.sl s ((elems.take h).drop l)) else none
  | some l,some h,some m=>match bc 0 (some m) with
   | some m=>if l=0∧h=0∧m=0 then some .esl else none
   | none=>none
  | _,_,_=>none
 | .esl=>match bc 0 lo,bc 0 hi,mx with
  | some 0,some 0,none=>some .esl
  | _,_,_=>none
 | .msl b n s off len =>
  match bc 0 lo,bc len hi,mx with
  | some l,some h,none=>if s=sz∧l ≤ h∧h ≤ len∧n ≠ 0 then (if l=0 ∨ l < h then some (.msl b n s (off + l * s) (h - l)) else some (.sl s [])) else if s=sz∧l < h∧0 < s∧off + h * s ≤ n∧n ≠ 0 then some (.msl b n s (off + l * s) (h - l)) else none
  | some l,some h,some m=>match bc 0 (some m) with
   | some m=>if l=0∧h=0∧m=0 then some .esl else if l ≤ h∧h ≤ m∧m ≤ len∧n ≠ 0 then some .undef else none
   | none=>none
  | _,_,_=>none
 | _=>none
def pF (x:AV) (lo hi:Option AV):Option AV:=match x with
 | .str s=>match bc 0 lo,bc s.size hi with
  | some l,some h=>if l ≤ h∧h ≤ s.size then some (.str (s.extract l h)) else none
  | _,_=>none
 | _=>none
def cw (cells:List AV):List (Nat × Nat × AV)→Option (List AV)
 | []=>some cells
 | (off,size,x) :: rest=>if x.flat=true∧x.cells.length=size∧off + size ≤ cells.length then cw (br cells off x.cells) rest else none
def cf (x:AV) (f:List AV→Option AV):Option AV:=match x with | .agg cs=>f cs | _=>none
def jw (x:AV) (f:Int→Option AV):Option AV:=match x with | .int _ n=>f n | _=>none
def bE (x:AV):Option AV:=match x with
 | .sl _ elems=>some (.int .i64 elems.length)
 | .esl=>some (.int .i64 0)
 | .msl _ _ _ _ len=>some (.int .i64 len)
 | _=>none
def a8 (T:Tm) (H:Hp):Ins→Option AV
 | .mov x=>some (ov T x)
 | .pick c a b=>match ov T c with | .bool t=>some (if t=true then ov T a else ov T b) | _=>none
 | .ld1 a=>rd1 H (ov T a)
 | .ldn k a=>(rd H k (ov T a)).map .agg
 | .nilck x=>match ov T x with | .ptr b n o=>some (.ptr b n o) | .iptr c o=>some (.iptr c o) | .func f c=>some (.func f c) | _=>none
 | .bin op tb tf x y=>aZ op tb tf (ov T x) (ov T y)
 | .binS op ks x y=>cf (ov T x) fun xs=>cf (ov T y) fun ys=>ja op ks xs ys
 | .un op x=>aun op (ov T x)
 | .conv k x=>jw (ov T x) fun n=>some (.int k (k.wrap n))
 | .mkfn f caps=>some (.func f (caps.map (ov T)))
 | .mkbf f first=>some (.bfn f (first.map (ov T)))
 | .slsA n x lo hi=>rl n (ov T x) (lo.map (ov T)) (hi.map (ov T)) none
 | .sls sz x lo hi mx=>ip sz (ov T x) (lo.map (ov T)) (hi.map (ov T)) (mx.map (ov T))
 | .slstr x lo hi=>pF (ov T x) (lo.map (ov T)) (hi.map (ov T))
 | .fa k p=>gm k (ov T p)
 | .part1 off x=>cf (ov T x) fun cs=>cs[off]?
 | .partn off k x=>cf (ov T x) fun cs=>if off + k ≤ cs.length then some (.agg ((cs.drop off).take k)) else none
 | .ixaA len sz x i=>jw (ov T i) fun n=>if 0 ≤ n∧n < len then gm (n.toNat * sz) (ov T x) else none
 | .ixaS sz x i=>cR sz (ov T x) (ov T i)
 | .ixA1 len sz x i=>cf (ov T x) fun cs=>jw (ov T i) fun n=>if 0 ≤ n∧n < len then cs[n.toNat * sz]? else none
 | .ixAn len sz x i=>cf (ov T x) fun cs=>jw (ov T i) fun n=>if 0 ≤ n∧n < len then (if n.toNat * sz + sz ≤ cs.length then some (.agg ((cs.drop (n.toNat * sz)).take sz)) else none) else none
 | .ixStr x i=>match ov T x with
  | .str s=>jw (ov T i) fun n=>if 0 ≤ n∧n < s.size then some (.int .u8 (s[n.toNat]?.getD 0).toNat) else none
  | _=>none
 | .ext x i=>ec (ov T x) i
 | .bld z parts=>(cw z (parts.map fun p=>(p.1,p.2.1,ov T p.2.2))).map .agg
 | .lenS x=>bE (ov T x)
 | .capE x=>match ov T x with | .esl=>some (.int .i64 0) | _=>none
 | .lenStr x=>match ov T x with | .str s=>some (.int .i64 s.size) | _=>none
 | .lenC n=>some (.int .i64 n)
 | .mx x l=>d5 jF (ov T x) (l.map (ov T))
 | .mn x l=>d5 jB (ov T x) (l.map (ov T))
 | _=>none
def xR (sz bytes:Nat) (s x:AV) (H:Hp) (nx:Nat):Option (AV × Hp × Nat) :=
 match dl sz H x with
 | none=>none
 | some (k,new) =>
  if new.all AV.one=true then
   match s with
   | .esl=>if k * bytes ≤ 140737488355328∧k ≤ 9223372036854775807 then some (.msl nx (k * sz) sz 0 k,aq H nx new,nx + 1) else none
   | .msl b n s off len=>match H b with
    | some cs =>
     if cs.length=n∧s=sz then
      if off=0∧n=len * s∧(len + k) * bytes ≤ 140737488355328∧len + k ≤ 9223372036854775807 then some (.msl b ((len + k) * s) s 0 (len + k),aq H b (cs ++ new),nx)
      else if off + (len + k) * s ≤ n∧0 < n then some (.msl b n s off (len + k),aq H b (br cs (off + len * s) new),nx)
      else if off=0∧len * s < n∧n < (len + k) * s∧(len + k) * bytes ≤ 140737488355328∧len + k ≤ 9223372036854775807 then some (.msl b ((len + k) * s) s 0 (len + k),aq H b (cs.take (len * s) ++ new),nx)
      else none
     else none
    | none=>none
   | _=>none
  else none
def eY (T:Tm) (H:Hp) (nx:Nat):Ins→Option (AV × Hp × Nat)
 | .alloc z=>nR z H nx
 | .box x=>nR (ov T x) H nx
 | .bldS sz len z parts=>if len=0 then (if parts.isEmpty=true then some (.esl,H,nx) else none) else
     match cw (aY (.agg z) len) (parts.map fun p=>(p.1,p.2.1,ov T p.2.2)) with
     | some cells=>some (.msl nx cells.length sz 0 len,aq H nx cells,nx + 1)
     | none=>none
 | .mks sz bytes z l c=>match ov T l,ov T c with
  | .int _ n,.int _ m=>if 0 ≤ n∧n ≤ m∧m ≤ 9223372036854775807∧bytes * m ≤ 281474976710656 then some (.msl nx (m.toNat * sz) sz 0 n.toNat,aq H nx (aY (.agg z) m.toNat),nx + 1) else none
  | _,_=>none
 | .st k p x=>match ov T p with
  | .ptr b n off=>match H b with
   | some cs=>if cs.length=n∧(ov T x).flat=true∧(ov T x).cells.length=k∧off + k ≤ n then some (.tup [],aq H b (br cs off (ov T x).cells),nx) else none
   | none=>none
  | _=>none
 | .app sz bytes s x=>xR sz bytes (ov T s) (ov T x) H nx
 | .apz sz bytes z s x=>match ov T s,ov T x with
  | .esl,.int _ n=>if 0 < n∧n ≤ 9223372036854775807∧n.toNat * bytes ≤ 140737488355328 then some (.msl nx (n.toNat * sz) sz 0 n.toNat,aq H nx (aY (.agg z) n.toNat),nx + 1) else none
  | _,_=>none
 | _=>none
def yD (lo hi mx:Option Operand):Bool:=!(mx.isSome && hi.isNone)
def jm (pl:List (Nat × Nat)):List (Nat × Operand)→Option (List (Nat × Nat × Opd))
 | []=>some []
 | (i,x) :: l=>match pl[i]?,jm pl l with
  | some (o,s),some r=>some ((o,s,.of x) :: r)
  | _,_=>none
def fI (sz:Nat) (l:List (Nat × Operand)):List (Nat × Nat × Opd):=l.map fun p=>(p.1 * sz,sz,.of p.2)
def eB (P:Program):Op→Option Ins
 | .move x=>some (.mov (.of x))
 | .assign x=>some (.mov (.of x))
 | .pick c a b=>some (.pick (.of c) (.of a) (.of b))
 | .load t a=>if tok P t then (if jG P t then (if 0 < P.cellsOf t then some (.ldn (P.cellsOf t) (.of a)) else none) else some (.ld1 (.of a))) else none
 | .nilCheck x=>some (.nilck (.of x))
 | .binOp op t x y _=>match dN P t with | some _=>none | none=>match yb P t with | some ks=>some (.binS op ks (.of x) (.of y)) | none=>some (.bin op (tL P t) (tU P t) (.of x) (.of y))
 | .unOp op _ x=>some (.un op (.of x))
 | .convert s d x=>if tok P s then (match gp P d with | some k=>some (.conv k (.of x)) | none=>none) else none
 | .makeFunc (.func f) first captured=>if first.size=0 then some (.mkfn f (captured.toList.map .of)) else if captured.size=0 then some (.mkbf f (first.toList.map .of)) else none
 | .slice t x lo hi mx=>if yD lo hi mx then (match P.underlying t with
  | some (.slice e)=>if tok P e then some (.sls (P.cellsOf e) (.of x) (lo.map .of) (hi.map .of) (mx.map .of)) else none
  | some .string=>match mx with | none=>some (.slstr (.of x) (lo.map .of) (hi.map .of)) | some _=>none
  | some (.array n e)=>if tok P e=true∧P.cellsOf e=1 then (match mx with | none=>some (.slsA n (.of x) (lo.map .of) (hi.map .of)) | some _=>none) else none
  | _=>none) else none
 | .fieldAddr t x f=>match zn P t f with | some k=>some (.fa k (.of x)) | none=>none
 | .field t x f=>match P.underlying t with
  | some (.struct fs)=>match fs[f]? with
   | some fd=>if tok P fd.type then (if jG P fd.type then some (.partn fd.offset (P.cellsOf fd.type) (.of x)) else some (.part1 fd.offset (.of x))) else none
   | none=>none
  | _=>none
 | .indexAddr t x i=>match P.underlying t with
  | some (.array len e)=>if tok P e then some (.ixaA len (P.cellsOf e) (.of x) (.of i)) else none
  | some (.slice e)=>if tok P e then some (.ixaS (P.cellsOf e) (.of x) (.of i)) else none
  | _=>none
 | .index t x i=>match P.underlying t with
  | some (.array len e)=>if tok P e then (if jG P e then some (.ixAn len (P.cellsOf e) (.of x) (.of i)) else some (.ixA1 len (P.cellsOf e) (.of x) (.of i))) else none
  | some .string=>some (.ixStr (.of x) (.of i))
  | _=>none
 | .extract x i=>some (.ext (.of x) i)
 | .build t parts=>match dq P t with
  | some z=>if z.flat=true then
   match pz P t with
   | some pl=>match jm pl parts.toList with
    | some ps=>some (.bld z.cells ps)
    | none=>none
   | none=>match si P t with
    | some (_,e)=>if tok P e=true then some (.bld z.cells (fI (P.cellsOf e) parts.toList)) else none
    | none=>none
   else none
  | none=>none
 | .call { callee:=.builtin .len,args:=⟨[x]⟩,argTypes:=⟨[t]⟩ }=>match P.underlying t with
  | some (.slice _)=>some (.lenS (.of x))
  | some .string=>some (.lenStr (.of x))
  | some (.array n _)=>some (.lenC n)
  | _=>none
 | .call { callee:=.builtin .max,args:=⟨x :: l⟩,argTypes:=_ }=>some (.mx (.of x) (l.map .of))
 | .call { callee:=.builtin .cap,args:=⟨[x]⟩,argTypes:=⟨[t]⟩ }=>match dN P t with
  | some _=>some (.capE (.of x))
  | none=>none
 | .call { callee:=.builtin .min,args:=⟨x :: l⟩,argTypes:=_ }=>some (.mn (.of x) (l.map .of))
 | _=>none
def gF (P:Program):Op→Option Ins
 | .alloc e=>match dq P e with | some z=>some (.alloc z) | none=>none
 | .box _ x=>some (.box (.of x))
 | .buildSlice t len parts=>match dN P t with
  | none=>none
  | some e=>if tok P e=true∧0 < P.cellsOf e∧len * P.cellsOf e ≤ 16777216 then (match dq P e with
   | some z=>if z.flat=true∧z.cells.length=P.cellsOf e then some (.bldS (P.cellsOf e) len z.cells (fI (P.cellsOf e) parts.toList)) else none
   | none=>none) else none
 | .makeSlice t l c=>match dN P t with
  | none=>none
  | some e=>match dq P e with
   | some z=>if tok P e=true∧z.flat=true∧z.cells.length=P.cellsOf e∧0 < P.cellsOf e then some (.mks (P.cellsOf e) (cW P e) z.cells (.of l) (.of c)) else none
   | none=>none
 | .store t p x=>if tok P t=true∧0 < P.cellsOf t then some (.st (P.cellsOf t) (.of p) (.of x)) else none
 | .call { callee:=.builtin .append,args:=⟨[s,x]⟩,argTypes:=⟨[tS,tX]⟩ }=>match dN P tS with
  | none=>none
  | some e=>if tok P e=true∧tok P tX=true∧gp P tX=none∧0 < P.cellsOf e∧zok P e=true then some (.app (P.cellsOf e) (cW P e) (.of s) (.of x)) else if (gp P tX).isSome=true then (match dq P e with
   | some z=>if tok P e=true∧z.flat=true∧z.cells.length=P.cellsOf e∧0 < P.cellsOf e∧zok P e=true then some (.apz (P.cellsOf e) (cW P e) z.cells (.of s) (.of x)) else none
   | none=>none) else none
 | _=>none
theorem iz {T:Tm} (pl:List (Nat × Nat)):∀ (parts:List (Nat × Operand)) (ps:List (Nat × Nat × Opd)) (cells:List AV),jm pl parts=some ps →
    eC (fun i=>pl[i]?) cells (parts.map fun p=>(p.1,ev T p.2))=cw cells (ps.map fun p=>(p.1,p.2.1,ov T p.2.2))
 | [],ps,cells,h=>by cases h; rfl
 | (i,x) :: l,ps,cells,h=>by
  simp only [jm] at h
  split at h
  ·rename_i o s r h1 h2
   cases h
   simp only [List.map_cons,eC,h1,cw,a9]
   split
   ·exact iz pl l r _ h2
   ·rfl
  ·cases h
theorem e6 {T:Tm} (sz:Nat):∀ (parts:List (Nat × Operand)) (cells:List AV),
    eC (fun i=>some (i * sz,sz)) cells (parts.map fun p=>(p.1,ev T p.2))=cw cells ((fI sz parts).map fun p=>(p.1,p.2.1,ov T p.2.2))
 | [],cells=>rfl
 | (i,x) :: l,cells=>by
  simp only [List.map_cons,eC,cw,fI,a9]
  split
  ·exact e6 sz l _
  ·rfl
theorem fZ (z:AV) (k:Nat):aY (.agg z.cells) k=aY z k:=rfl
theorem ph {P:Program} {op:Op} {i:Ins} {T:Tm} {H:Hp} {r:AV} (hc:eB P op=some i) (h:a8 T H i=some r):bD P T H op=some r:=by
 cases op with
 | move x=>cases hc; simp only [a8,a9] at h; exact h
 | assign x=>cases hc; simp only [a8,a9] at h; exact h
 | pick c a b=>cases hc; simp only [a8,a9] at h; exact h
 | load t a =>
  simp only [eB] at hc
  simp only [bD,fM]
  split at hc
  ·rename_i h1
   rw [if_pos h1]
   split at hc
   ·rename_i h2
    rw [if_pos h2]
    split at hc
    ·rename_i h3
     rw [if_pos h3]
     cases hc; simp only [a8,a9] at h; exact h
    ·cases hc
   ·rename_i h2
    rw [if_neg h2]
    cases hc; simp only [a8,a9] at h; exact h
  ·cases hc
 | nilCheck x=>cases hc; simp only [a8,a9] at h; exact h
 | binOp op t x y _ =>
  simp only [eB] at hc
  split at hc
  ·cases hc
  split at hc
  ·rename_i ks hks
   cases hc
   simp only [a8,a9] at h
   simp only [bD]
   unfold cf at h
   split at h
   ·rename_i cs hx
    split at h
    ·rename_i cs' hy
     rw [hx,hy]
     simp only [t8,hks]; exact h
    ·cases h
   ·cases h
  ·cases hc; simp only [a8,a9] at h; exact wn h
 | unOp op _ x=>cases hc; simp only [a8,a9] at h; exact h
 | convert s d x =>
  simp only [eB] at hc
  split at hc
  ·rename_i h1
   split at hc
   ·rename_i k hk
    cases hc
    simp only [a8,a9] at h
    simp only [bD,tn]
    unfold jw at h
    split at h
    ·rename_i hx; simp only [hx,h1,hk,if_true]; exact h
    ·cases h
   ·cases hc
  ·cases hc
 | makeFunc fn first captured =>
  cases fn with
  | func f =>
   simp only [eB] at hc
   split at hc
   ·rename_i h1
    cases hc
    simp only [a8,fG] at h
    simp only [bD,if_pos h1]; exact h
   ·rename_i h1
    split at hc
    ·rename_i h2
     cases hc
     simp only [a8,fG] at h
     simp only [bD,if_neg h1,if_pos h2]; exact h
    ·cases hc
  | _=>cases hc
 | slice t x lo hi mx =>
  simp only [eB] at hc
  split at hc
  ·rename_i hb
   have hb':¬ (mx.isSome=true∧hi.isNone=true):=by
    rintro ⟨h1,h2⟩
    simp [yD,h1,h2] at hb
   split at hc
   ·rename_i e hu
    split at hc
    ·rename_i h1
     cases hc
     simp only [a8,a9,jY] at h
     simp only [bD,if_neg hb',kF,hu,h1,if_true]
     exact h
    ·cases hc
   ·rename_i hu
    split at hc
    ·cases hc
     simp only [a8,a9,jY] at h
     simp only [bD,if_neg hb',kF,hu]
     unfold pF at h
     split at h
     ·rename_i s hs
      rw [hs]
      simp only [Option.map_none]
      split at h
      ·rename_i l h' e1 e2
       simp only [e1,e2]; exact h
      ·cases h
     ·cases h
    ·cases hc
   ·rename_i n e hu
    split at hc
    ·rename_i h1
     split at hc
     ·cases hc
      simp only [a8,a9,jY] at h
      simp only [bD,if_neg hb',kF,hu,if_pos h1]
      exact h
     ·cases hc
    ·cases hc
   ·cases hc
  ·cases hc
 | fieldAddr t x f =>
  simp only [eB] at hc
  split at hc
  ·rename_i k hk
   cases hc
   simp only [a8,a9] at h
   simp only [bD,gi,hk]; exact h
  ·cases hc
 | field t x f =>
  simp only [eB] at hc
  split at hc
  ·rename_i fs hu
   split at hc
   ·rename_i fd hfd
    split at hc
    ·rename_i h1
     split at hc
     ·rename_i h2
      cases hc
      simp only [a8,a9] at h
      unfold cf at h
      split at h
      ·rename_i cs hx
       simp only [bD,mD,hx,hu,hfd,apart,h1,h2,if_true]; exact h
      ·cases h
     ·rename_i h2
      cases hc
      simp only [a8,a9] at h
      unfold cf at h
      split at h
      ·rename_i cs hx
       simp only [bD,mD,hx,hu,hfd,apart,h1,h2,if_true]; exact h
      ·cases h
    ·cases hc
   ·cases hc
  ·cases hc
 | indexAddr t x i =>
  simp only [eB] at hc
  split at hc
  ·rename_i len e hu
   split at hc
   ·rename_i h1
    cases hc
    simp only [a8,a9] at h
    unfold jw at h
    split at h
    ·rename_i n hn
     simp only [bD,eX,hn,hu,h1,true_and]
     exact h
    ·cases h
   ·cases hc
  ·rename_i e hu
   split at hc
   ·rename_i h1
    cases hc
    simp only [a8,a9] at h
    unfold cR at h
    split at h
    ·rename_i n hn
     simp only [bD,eX,hn,hu,h1,if_true]
     split at h
     ·rename_i s elems hx
      simp only [hx]
      split at h
      ·rename_i hb
       obtain ⟨b1,b2,b3⟩:=hb
       rw [if_pos ⟨b1,b2⟩]
       have hlt:n.toNat < elems.length:=by omega
       rw [List.getElem?_eq_getElem hlt]
       simp only [List.getD,List.getElem?_eq_getElem hlt,Option.getD_some] at h
       exact h
      ·cases h
     ·rename_i hx
      simp only [hx]; exact h
     ·cases h
    ·cases h
   ·cases hc
  ·cases hc
 | index t x i =>
  simp only [eB] at hc
  split at hc
  ·rename_i len e hu
   have hta:si P t=some (len,e):=by simp [si,hu]
   split at hc
   ·rename_i h1
    split at hc
    ·rename_i h2
     cases hc
     simp only [a8,a9] at h
     unfold cf at h
     split at h
     ·rename_i cs hx
      unfold jw at h
      split at h
      ·rename_i n hn
       simp only [bD,kf,hx,hn,hta,apart,h1,h2,if_true]; exact h
      ·cases h
     ·cases h
    ·rename_i h2
     cases hc
     simp only [a8,a9] at h
     unfold cf at h
     split at h
     ·rename_i cs hx
      unfold jw at h
      split at h
      ·rename_i n hn
       simp only [bD,kf,hx,hn,hta,apart,h1,h2,if_true]; exact h
      ·cases h
     ·cases h
   ·cases hc
  ·rename_i hu
   cases hc
   simp only [a8,a9] at h
   split at h
   ·rename_i s hs
    unfold jw at h
    split at h
    ·rename_i n hn
     simp only [bD,kf,hs,hn,hu]
     simp only at h
     split at h
     ·rename_i hb
      rw [if_pos hb.1]
      have hlt:n.toNat < s.size:=by omega
      have e:s[n.toNat]?=some s[n.toNat]:=by simp [hlt]
      rw [e] at h ⊢
      exact h
     ·cases h
    ·cases h
   ·cases h
  ·cases hc
 | extract x i=>cases hc; simp only [a8,a9] at h; exact h
 | build t parts =>
  simp only [eB] at hc
  split at hc
  ·rename_i z hz
   split at hc
   ·rename_i hf
    split at hc
    ·rename_i pl hpl
     split at hc
     ·rename_i ps hps
      cases hc
      simp only [a8] at h
      rw [← iz pl _ _ _ hps] at h
      simp only [bD,mB,hz,hpl,if_pos hf]; exact h
     ·cases hc
    ·rename_i hpl
     split at hc
     ·rename_i k e hta
      split at hc
      ·rename_i h1
       cases hc
       simp only [a8] at h
       rw [← e6] at h
       simp only [bD,mB,hz,hpl,if_pos hf,hta,if_pos h1]; exact h
      ·cases hc
     ·cases hc
   ·cases hc
  ·cases hc
 | call c =>
  obtain ⟨callee,args,argTypes⟩:=c
  cases callee with
  | builtin b =>
   obtain ⟨args⟩:=args
   obtain ⟨argTypes⟩:=argTypes
   cases b with
   | len =>
    rcases args with _ | ⟨x,_ | ⟨y,l⟩⟩
    ·cases hc
    ·rcases argTypes with _ | ⟨t,_ | ⟨u,l⟩⟩
     ·cases hc
     ·simp only [eB] at hc
      split at hc
      ·rename_i e hu
       cases hc
       simp only [a8,a9] at h
       unfold bE at h
       simp only [bD,tW,hu]
       split at h <;> rename_i hx <;> first | (simp only [hx]; exact h) | cases h
      ·rename_i hu
       cases hc
       simp only [a8,a9] at h
       simp only [bD,tW,hu]
       split at h <;> rename_i hx <;> first | (simp only [hx]; exact h) | cases h
      ·rename_i n e hu
       cases hc
       simp only [a8] at h
       simp only [bD,tW,hu]
       exact h
      ·cases hc
     ·cases hc
    ·cases hc
   | max =>
    rcases args with _ | ⟨x,l⟩
    ·cases hc
    ·cases hc
     simp only [a8,a9,fG] at h; exact h
   | cap =>
    rcases args with _ | ⟨x,_ | ⟨y,l⟩⟩
    ·cases hc
    ·rcases argTypes with _ | ⟨t,_ | ⟨u,l⟩⟩
     ·cases hc
     ·simp only [eB] at hc
      split at hc
      ·rename_i e he
       cases hc
       simp only [a8,a9] at h
       simp only [bD,he]
       split at h <;> rename_i hx <;> first | (simp only [hx]; exact h) | cases h
      ·cases hc
     ·cases hc
    ·cases hc
   | min =>
    rcases args with _ | ⟨x,l⟩
    ·cases hc
    ·cases hc
     simp only [a8,a9,fG] at h; exact h
   | _=>cases hc
  | _=>cases hc
 | _=>cases hc
theorem tx {P:Program} {op:Op} {i:Ins} {T:Tm} {H:Hp} {nx:Nat} {r:AV × Hp × Nat} (hc:gF P op=some i) (h:eY T H nx i=some r):di P T H nx op=some r:=by
 cases op with
 | alloc e =>
  simp only [gF] at hc
  split at hc
  ·rename_i z hz
   cases hc
   simp only [di,mv,hz]; exact h
  ·cases hc
 | box _ x=>cases hc; simp only [eY,a9] at h; exact h
 | buildSlice t len parts =>
  simp only [gF] at hc
  split at hc
  ·cases hc
  ·rename_i e he
   split at hc
   ·rename_i h1
    split at hc
    ·rename_i z hz
     split at hc
     ·rename_i h2
      cases hc
      simp only [eY] at h
      simp only [di,jI,he,if_pos h1]
      split at h
      ·rename_i hl
       rw [if_pos hl]
       split at h
       ·rename_i hp
        have:parts.toList=[]:=by
         unfold fI at hp
         simpa using hp
        rw [this]; exact h
       ·cases h
      ·rename_i hl
       rw [if_neg hl]
       simp only [hz,if_pos h2]
       rw [fZ,← e6] at h
       exact h
     ·cases hc
    ·cases hc
   ·cases hc
 | makeSlice t l c =>
  simp only [gF] at hc
  split at hc
  ·cases hc
  ·rename_i e he
   split at hc
   ·rename_i z hz
    split at hc
    ·rename_i h1
     cases hc
     simp only [eY,a9] at h
     split at h
     ·rename_i k n k' m hl hm
      split at h
      ·rename_i hb
       simp only [di,qc,he,hl,hm,hz]
       rw [if_pos ⟨h1.1,h1.2.1,h1.2.2.1,h1.2.2.2,hb.1,hb.2.1,hb.2.2.1,hb.2.2.2⟩]
       rw [fZ] at h
       exact h
      ·cases h
     ·cases h
    ·cases hc
   ·cases hc
 | store t p x =>
  simp only [gF] at hc
  split at hc
  ·rename_i h1
   cases hc
   simp only [eY,a9] at h
   split at h
   ·rename_i b n off hp
    split at h
    ·rename_i cs hb
     split at h
     ·rename_i h2
      simp only [di,kE,hp,hb]
      rw [if_pos ⟨h2.1,h1.1,h2.2.1,h2.2.2.1,h2.2.2.2,h1.2⟩]
      exact h
     ·cases h
    ·cases h
   ·cases h
  ·cases hc
 | call c =>
  obtain ⟨callee,args,argTypes⟩:=c
  cases callee with
  | builtin b =>
   obtain ⟨args⟩:=args
   obtain ⟨argTypes⟩:=argTypes
   cases b with
   | append =>
    rcases args with _ | ⟨x,_ | ⟨y,_ | ⟨z,l⟩⟩⟩
    ·cases hc
    ·cases hc
    ·rcases argTypes with _ | ⟨t,_ | ⟨u,_ | ⟨v,l⟩⟩⟩
     ·cases hc
     ·cases hc
     ·simp only [gF] at hc
      split at hc
      ·cases hc
      ·rename_i e he
       split at hc
       ·rename_i h1
        cases hc
        simp only [eY,a9] at h
        simp only [di,h1.2.2.1,Option.isSome_none,Bool.false_eq_true,if_false]
        simp only [jq,he,if_pos h1]
        exact h
       ·split at hc
        ·rename_i hti
         obtain ⟨kx,hkx⟩:=Option.isSome_iff_exists.1 hti
         split at hc
         ·rename_i z hz
          split at hc
          ·rename_i h2
           cases hc
           simp only [eY,a9] at h
           split at h
           ·rename_i kn n hs hx
            split at h
            ·rename_i h3
             simp only [di,hkx,Option.isSome_some,if_true,rH,he,hs,hx,hz]
             rw [if_pos ⟨h2.1,h2.2.1,h2.2.2.1,h2.2.2.2.1,h2.2.2.2.2,h3.1,h3.2.1,h3.2.2⟩]
             rw [fZ] at h
             exact h
            ·cases h
           ·cases h
          ·cases hc
         ·cases hc
        ·cases hc
     ·cases hc
    ·cases hc
   | _=>cases hc
  | _=>cases hc
 | _=>cases hc
def isp (i:Ins) (T:Tm) (H:Hp) (nx:Nat) (K:AV→Hp→Nat→Prop):Prop:=match i with
 | .mkm h=>(h=none ∨ ∃ x k n,h=some x∧ov T x=.int k n)∧(K (.mp nx) (aq H nx [.omap [] []]) (nx + 1) ∨ K (.mp nx) (aq H nx [.bmap [] [] [] 0]) (nx + 1))
 | .mput k m key x=>(∃ b ks vs r,ov T m=.mp b∧H b=some [.omap ks vs]∧eJ k (ov T key)=true∧bG k (ov T key) ks=some r∧K (.tup []) (aq H b [.omap (bx (ov T key) r ks) (dI (ov T x) r vs)]) nx) ∨
     ∃ b ks vs bs ck r,ov T m=.mp b∧H b=some [.bmap ks vs bs ck]∧eJ k (ov T key)=true∧bG k (ov T key) ks=some r∧K (.tup []) (aq H b [.bmap (bx (ov T key) r ks) (dI (ov T x) r vs) (kO ck r bs) (od ck r)]) nx
 | .mdel k m key=>∃ b ks vs bs ck r,ov T m=.mp b∧H b=some [.bmap ks vs bs ck]∧eJ k (ov T key)=true∧bG k (ov T key) ks=some r∧K (.tup []) (aq H b [.bmap (gj r ks) (gj r vs) (gj r bs) ck]) nx
 | .mget k z ok m key=>(∃ b ks vs r,ov T m=.mp b∧H b=some [.omap ks vs]∧eJ k (ov T key)=true∧bG k (ov T key) ks=some r∧K (Go.Abs.mget z ok r vs) H nx) ∨
     ∃ b ks vs bs ck r,ov T m=.mp b∧H b=some [.bmap ks vs bs ck]∧eJ k (ov T key)=true∧bG k (ov T key) ks=some r∧K (Go.Abs.mget z ok r vs) H nx
 | .mlen m=>(∃ b ks vs,ov T m=.mp b∧H b=some [.omap ks vs]∧K (.int .i64 ks.length) H nx) ∨ ∃ b ks vs bs ck,ov T m=.mp b∧H b=some [.bmap ks vs bs ck]∧K (.int .i64 ks.length) H nx
 | .mrng m=>(∃ b ks vs,ov T m=.mp b∧H b=some [.omap ks vs]∧K (.itr nx) (aq H nx [.oiter b ks.length []]) (nx + 1)) ∨ ∃ b ks vs bs ck,ov T m=.mp b∧H b=some [.bmap ks vs bs ck]∧K (.itr nx) (aq H nx [.biter b ck []]) (nx + 1)
 | .mnxt it=>(∃ b m n0 seen ks vs,ov T it=.itr b∧H b=some [.oiter m n0 seen]∧H m=some [.omap ks vs]∧ks.length=n0 ∧
     (∀ i,i < ks.length→i ∉ seen→K (.tup [.bool true,ks.getD i .undef,vs.getD i .undef]) (aq H b [.oiter m n0 (seen ++ [i])]) nx) ∧
     ((∀ i,i < n0→i < ks.length→i ∈ seen)→K (.tup [.bool false]) H nx)) ∨
     ∃ (b m ck:Nat) (seen:List Nat) (ks vs:List AV) (bs:List Nat),ov T it=.itr b∧H b=some [.biter m ck seen]∧H m=some [.bmap ks vs bs ck] ∧
     (∀ (i s:Nat),bs[i]?=some s→s ∉ seen→K (.tup [.bool true,ks.getD i .undef,vs.getD i .undef]) (aq H b [.biter m ck (seen ++ [s])]) nx) ∧
     ((∀ s ∈ bs,s ∈ seen)→K (.tup [.bool false]) H nx)
 | .ment it=>(∃ b m n0 i seen ks vs,ov T it=.itr b∧H b=some [.oiter m n0 seen]∧H m=some [.omap ks vs]∧ks.length=n0∧seen.getLast?=some i∧i < ks.length∧K (.tup [ks.getD i .undef,vs.getD i .undef]) H nx) ∨
     ∃ (b m ck i s:Nat) (seen:List Nat) (ks vs:List AV) (bs:List Nat),ov T it=.itr b∧H b=some [.biter m ck seen]∧H m=some [.bmap ks vs bs ck]∧seen.getLast?=some s∧bs[i]?=some s∧K (.tup [ks.getD i .undef,vs.getD i .undef]) H nx
 | .cpy sz d s=>∃ n H',kV sz (ov T d) (ov T s) H=some (n,H')∧K (.int .i64 n) H' nx
 | .clr sz z x=>∃ H',p8 sz z (ov T x) H=some H'∧K (.tup []) H' nx
 | .slp len sz x=>∃ (b n off:Nat) (cs:List AV),ov T x=.ptr b n off∧H b=some cs∧cs.length=n∧off + len * sz=n∧K (.msl b n sz off len) H nx
 | .snil neg x=>∃ k,dP (ov T x)=some k∧s5 neg k fun r=>K r H nx
 | .s2b x=>∃ bs:ByteArray,ov T x=.str bs∧(bs.size=0→K (.sl 1 []) H nx)∧(bs.size ≠ 0→K (.msl nx bs.size 1 0 bs.size) (aq H nx (bs.data.toList.map jC)) (nx + 1))
 | .b2s x=>∃ (n:Nat) (bs:List UInt8),dl 1 H (ov T x)=some (n,bs.map jC)∧K (.str ⟨bs.toArray⟩) H nx
 | .mplc k z m key=>∃ b ks vs r,ov T m=.mp b∧H b=some [.omap ks vs]∧eJ k (ov T key)=true∧bG k (ov T key) ks=some r∧K (.tup [rQ z r vs,.int .i64 (qz r ks)]) (aq H b [.omap (bx (ov T key) r ks) (gz z r vs)]) nx
 | .mpst m s x=>∃ (b:Nat) (ks vs:List AV) (i:Nat),ov T m=.mp b∧H b=some [.omap ks vs]∧ov T s=.int .i64 (i:Int)∧i < ks.length∧K (.tup []) (aq H b [.omap ks (vs.set i (ov T x))]) nx
 | _=>False
def re (P:Program):Op→Option Ins
 | .makeMap t r=>match e9 P t with | some _=>some (.mkm (r.map .of)) | none=>none
 | .mapUpdate t m k x=>match e9 P t with
  | some (kt,_)=>(mkk P kt).map fun mk=>.mput mk (.of m) (.of k) (.of x)
  | none=>none
 | .insert t m k x=>match e9 P t with
  | some (kt,_)=>(mkk P kt).map fun mk=>.mput mk (.of m) (.of k) (.of x)
  | none=>none
 | .lookup t m k ok=>match e9 P t with
  | some (kt,et)=>match mkk P kt,dq P et with
   | some mk,some z=>some (.mget mk z ok (.of m) (.of k))
   | _,_=>none
  | none=>none
 | .range t m=>match e9 P t with | some _=>some (.mrng (.of m)) | none=>none
 | .next it false=>some (.mnxt (.of it))
 | .entry it=>some (.ment (.of it))
 | .call { callee:=.builtin .len,args:=⟨[x]⟩,argTypes:=⟨[t]⟩ }=>match e9 P t with | some _=>some (.mlen (.of x)) | none=>none
 | .call { callee:=.builtin .delete,args:=⟨[m,k]⟩,argTypes:=⟨[t,_]⟩ }=>match e9 P t with
  | some (kt,_)=>(mkk P kt).map fun mk=>.mdel mk (.of m) (.of k)
  | none=>none
 | .binOp .eql t x (.const (.slice none 0 0)) _=>match dN P t with | some _=>some (.snil false (.of x)) | none=>none
 | .binOp .neq t x (.const (.slice none 0 0)) _=>match dN P t with | some _=>some (.snil true (.of x)) | none=>none
 | .call { callee:=.builtin .copy,args:=⟨[d,s]⟩,argTypes:=⟨[tD,_]⟩ }=>match dN P tD with
  | some e=>if tok P e=true then some (.cpy (P.cellsOf e) (.of d) (.of s)) else none
  | none=>none
 | .call { callee:=.builtin .clear,args:=⟨[x]⟩,argTypes:=⟨[t]⟩ }=>match dN P t with
  | some e=>match dq P e with
   | some z=>if 0 < P.cellsOf e then some (.clr (P.cellsOf e) z (.of x)) else none
   | none=>none
  | none=>none
 | .convert s d x=>match P.underlying s,P.underlying d with
  | some .string,some (.slice e)=>if gp P e=some .u8 then some (.s2b (.of x)) else none
  | some (.slice e),some .string=>if gp P e=some .u8 then some (.b2s (.of x)) else none
  | _,_=>none
 | .mapEntry t m k=>match e9 P t with
  | some (kt,et)=>match mkk P kt,dq P et with
   | some mk,some z=>some (.mplc mk z (.of m) (.of k))
   | _,_=>none
  | none=>none
 | .entryStore _ m s x=>some (.mpst (.of m) (.of s) (.of x))
 | .slice t x none none none=>match P.underlying t with
  | some (.array n e)=>if tok P e=true∧0 < n then some (.slp n (P.cellsOf e) (.of x)) else none
  | _=>none
 | _=>none
theorem yP {P:Program} {op:Op} {i:Ins} {T:Tm} {H:Hp} {nx:Nat} {K:AV→Hp→Nat→Prop} (hc:re P op=some i) (h:isp i T H nx K):bI P op T H nx K:=by
 have put:∀ t m k x,re P (.mapUpdate t m k x)=some i→isp i T H nx K→bI P (.mapUpdate t m k x) T H nx K:=by
  intro t m k x hc h
  simp only [re] at hc
  split at hc
  ·rename_i kt et ht
   cases hk:mkk P kt with
   | none=>rw [hk] at hc; cases hc
   | some mk =>
    rw [hk] at hc; cases hc
    rcases h with ⟨b,ks,vs,r,h1,h2,h3,h4,h5⟩ | ⟨b,ks,vs,bs,ck,r,h1,h2,h3,h4,h5⟩
    ·simp only [a9] at h1 h3 h4 h5
     exact lA ht hk h1 h2 h3 h4 h5
    ·simp only [a9] at h1 h3 h4 h5
     exact jU ht hk h1 h2 h3 h4 h5
  ·cases hc
 unfold re at hc
 split at hc
 ·rename_i t r
  split at hc
  ·rename_i p ht
   cases hc
   obtain ⟨h1,h2⟩:=h
   have h4:r=none ∨ ∃ x n k p,r=some x∧ev T x=.int k n∧e9 P t=some p:=by
    rcases h1 with h1 | ⟨x,k,n,h1,h3⟩
    ·cases r with
     | none=>exact .inl rfl
     | some r=>cases h1
    ·cases r with
     | none=>cases h1
     | some r=>cases h1; rw [a9] at h3; exact .inr ⟨r,n,k,p,rfl,h3,ht⟩
   rcases h2 with h2 | h2
   ·exact nN h4 h2
   ·exact mN h4 h2
  ·cases hc
 ·rename_i t m k x
  exact put t m k x hc h
 ·rename_i t m k x
  exact pQ (put t m k x hc h)
 ·rename_i t m k ok
  split at hc
  ·rename_i kt et ht
   split at hc
   ·rename_i mk z hk hz
    cases hc
    rcases h with ⟨b,ks,vs,r,h1,h2,h3,h4,h5⟩ | ⟨b,ks,vs,bs,ck,r,h1,h2,h3,h4,h5⟩
    ·simp only [a9] at h1 h3 h4
     exact po ht hk hz h1 h2 h3 h4 h5
    ·simp only [a9] at h1 h3 h4
     exact nX ht hk hz h1 h2 h3 h4 h5
   ·cases hc
  ·cases hc
 ·rename_i t m
  split at hc
  ·rename_i p ht
   cases hc
   rcases h with ⟨b,ks,vs,h1,h2,h3⟩ | ⟨b,ks,vs,bs,ck,h1,h2,h3⟩
   ·rw [a9] at h1
    exact pC ht h1 h2 h3
   ·rw [a9] at h1
    exact nW ht h1 h2 h3
  ·cases hc
 ·cases hc
  rcases h with ⟨b,m,n0,seen,ks,vs,h1,h2,h3,h4,h5,h6⟩ | ⟨b,m,ck,seen,ks,vs,bs,h1,h2,h3,h5,h6⟩
  ·rw [a9] at h1
   exact rI h1 h2 h3 h4 h5 h6
  ·rw [a9] at h1
   exact pq h1 h2 h3 h5 h6
 ·cases hc
  rcases h with ⟨b,m,n0,i,seen,ks,vs,h1,h2,h3,h4,h5,h6,h7⟩ | ⟨b,m,ck,i,s,seen,ks,vs,bs,h1,h2,h3,h5,h6,h7⟩
  ·rw [a9] at h1
   exact pr h1 h2 h3 h4 h5 h6 h7
  ·rw [a9] at h1
   exact nQ h1 h2 h3 h5 h6 h7
 ·rename_i x t
  split at hc
  ·rename_i p ht
   cases hc
   rcases h with ⟨b,ks,vs,h1,h2,h3⟩ | ⟨b,ks,vs,bs,ck,h1,h2,h3⟩
   ·rw [a9] at h1
    exact ss ht h1 h2 h3
   ·rw [a9] at h1
    exact qP ht h1 h2 h3
  ·cases hc
 ·rename_i m k t tk
  split at hc
  ·rename_i kt et ht
   cases hk:mkk P kt with
   | none=>rw [hk] at hc; cases hc
   | some mk =>
    rw [hk] at hc; cases hc
    obtain ⟨b,ks,vs,bs,ck,r,h1,h2,h3,h4,h5⟩:=h
    simp only [a9] at h1 h3 h4 h5
    exact nV ht hk h1 h2 h3 h4 h5
  ·cases hc
 ·rename_i t x ty
  split at hc
  ·rename_i e ht
   cases hc
   obtain ⟨k,h1,h2⟩:=h
   rw [a9] at h1
   exact lZ (neg:=false) ht h1 h2
  ·cases hc
 ·rename_i t x ty
  split at hc
  ·rename_i e ht
   cases hc
   obtain ⟨k,h1,h2⟩:=h
   rw [a9] at h1
   exact lZ (neg:=true) ht h1 h2
  ·cases hc
 ·rename_i d s tD tS
  split at hc
  ·rename_i e ht
   split at hc
   ·rename_i hte
    cases hc
    obtain ⟨n,H',h1,h2⟩:=h
    simp only [a9] at h1
    exact r7 ht hte h1 h2
   ·cases hc
  ·cases hc
 ·rename_i x t
  split at hc
  ·rename_i e ht
   split at hc
   ·rename_i z hz
    split at hc
    ·rename_i hpos
     cases hc
     obtain ⟨H',h1,h2⟩:=h
     simp only [a9] at h1
     exact rf ht hz h1 hpos h2
    ·cases hc
   ·cases hc
  ·cases hc
 ·rename_i s d x
  have tu:∀ {e},gp P e=some .u8→P.underlying e=some (.int .u8):=fun {e} h=>by
   unfold gp at h
   split at h
   ·rename_i hu; cases h; exact hu
   ·cases h
  split at hc
  ·rename_i e hs hd
   split at hc
   ·rename_i he
    cases hc
    obtain ⟨bs,h1,h2,h3⟩:=h
    rw [a9] at h1
    exact uR hs hd (tu he) h1 h2 h3
   ·cases hc
  ·rename_i e hs hd
   split at hc
   ·rename_i he
    cases hc
    obtain ⟨n,bs,h1,h2⟩:=h
    rw [a9] at h1
    exact ve hs (tu he) hd h1 h2
   ·cases hc
  ·cases hc
 ·rename_i t m k
  split at hc
  ·rename_i kt et ht
   split at hc
   ·rename_i mk z hk hz
    cases hc
    obtain ⟨b,ks,vs,r,h1,h2,h3,h4,h5⟩:=h
    simp only [a9] at h1 h3 h4 h5
    exact nq ht hk hz h1 h2 h3 h4 h5
   ·cases hc
  ·cases hc
 ·cases hc
  obtain ⟨b,ks,vs,i,h1,h2,h3,h4,h5⟩:=h
  simp only [a9] at h1 h3 h5
  exact ky h1 h2 h3 h4 h5
 ·rename_i t x
  split at hc
  ·rename_i n e hu
   split at hc
   ·rename_i hce
    cases hc
    obtain ⟨b,n',off,cs,h1,h2,h3,h4,h5⟩:=h
    rw [a9] at h1
    exact uf hu hce.1 hce.2 h1 h2 h3 h4 h5
   ·cases hc
  ·cases hc
 ·cases hc
end Go.Abs
namespace Go.Abs
open Go.RowKit
structure Op2 where
 d:Option Nat
 g:Option (Nat × Bool)
 i:Ins
inductive C2 where
 | skip
 | ops (m:Nat) (l:List Op2)
 | mix (m:Nat) (l:List Op2) (C:List Nat)
 | mixS (m:Nat) (l:List Op2) (C:List (Nat × Nat))
 | seq (a b:C2)
 | cond (c:Opd) (a b:C2)
 | block (id:Nat) (b:C2)
 | loop (b:C2)
 | exit (id:Nat)
 | ret
 | rangeF (g:Opd) (ps:List Nat) (a b:C2)
inductive IC where
 | val | eff | call | sp
 deriving DecidableEq
def ic:Ins→IC
 | .alloc _ | .box _ | .bldS .. | .mks .. | .st .. | .app .. | .apz ..=>.eff
 | .call ..=>.call
 | .mkm .. | .mput .. | .mdel .. | .mget .. | .mlen _ | .mrng _ | .mnxt _ | .ment _ | .cpy .. | .clr .. | .snil .. | .s2b _ | .b2s _ | .mplc .. | .mpst .. | .slp ..=>.sp
 | _=>.val
def nO (m:Nat) (p:AV):Bool:=match p with | .ptr b _ _=>b < m | _=>true
def qN (m:Nat) (p:AV):Bool:=match p with | .ptr b _ _=>m ≤ b | _=>true
def dm2 (dm:DM) (T:Tm) (i:Ins):Bool:=match dm with
 | .fresh m=>match i with
  | .ld1 a=>nO m (ov T a)
  | .ldn _ a=>nO m (ov T a)
  | .st _ p _=>qN m (ov T p)
  | .app ..=>false
  | .apz ..=>false
  | _=>true
 | _=>true
def aX (P:Program) (dm:DM) (i:Ins) (T:Tm) (H:Hp) (nx:Nat) (K:AV→Hp→Nat→Prop):Prop :=
 match ic i with
 | .val=>aK (dm2 dm T i) (az (a8 T H i) fun r=>K r H nx)
 | .eff=>aK (dm2 dm T i) (az (eY T H nx i) fun x=>K x.1 x.2.1 x.2.2)
 | .call=>match i with
  | .call f args=>(az (jt (ov T f)) fun y=>match dm.isText with
   | false=>aO P y.1 (args.map (ov T) ++ y.2) H fun r=>K r H nx
   | true=>Fn P y.1 (args.map (ov T) ++ y.2) H nx K) ∨ (dm.isText=true∧((∃ b,ov T f=.yld b∧Yl P b (args.map (ov T)) H nx K) ∨ ∃ g fs,ov T f=.bfn g fs∧Fn P g (fs ++ args.map (ov T)) H nx K))
  | _=>False
 | .sp=>dm.isText=true∧isp i T H nx K
def g2 (T:Tm):Option (Nat × Bool)→Option Bool
 | none=>some true
 | some (t,want)=>match T t with
  | .bool b=>some (b == want)
  | .tup []=>some false
  | _=>none
def aj (P:Program) (dm:DM):List Op2→Tm→Hp→Nat→SP→Prop
 | [],T,H,nx,K=>K T H nx
 | o :: l,T,H,nx,K=>aL (g2 T o.g) (aX P dm o.i T H nx fun r H nx=>aj P dm l (aE T o.d r) H nx K) (aj P dm l (aE T o.d (.tup [])) H nx K)
def ny (T:Tm):Ins→Option AV
 | .bldS sz len z parts=>l7 (eY T bk 0 (.bldS sz len z parts))
 | _=>none
def a6 (P:Program) (S:Hp):List (Op2 × Nat)→Tm→Hp→Nat→SP→Prop
 | [],T,H,nx,K=>K T H nx
 | (o,0) :: l,T,H,nx,K=>aL (g2 T o.g) (az (a8 T S o.i) fun r=>a6 P S l (aE T o.d r) H nx K) (a6 P S l (aE T o.d (.tup [])) H nx K)
 | (o,k + 1) :: l,T,H,nx,K=>aL (g2 T o.g) (if k=2 then az (ny T o.i) fun r=>a6 P S l (aE T o.d r) H nx K else aX P .text o.i T H nx fun r H' nx'=>(k=0→Sub S H')∧a6 P S l (aE T o.d r) H' nx' K) (a6 P S l (aE T o.d (.tup [])) H nx K)
def aD (P:Program):C2→Tm→Hp→Nat→CP→Prop
 | .skip,T,H,nx,K=>K .normal T H nx
 | .ops m l,T₀,H₀,nx₀,K=>∃ T H nx Hf,Gh T₀ H₀ nx₀ T H nx Hf∧aj P (match m with | 0=>.text | 1=>.draw | _=>.fresh nx) l T H nx (K .normal)
 | .mix m l C,T₀,H₀,nx₀,K=>(m ≠ 9∧∃ T H nx Hf,Gh T₀ H₀ nx₀ T H nx Hf∧aj P (match m with | 1=>.draw | _=>.fresh nx) l T H nx (K .normal)) ∨
     ∃ T H nx Hf,Gh T₀ H₀ nx₀ T H nx Hf∧aj P .text (C.map fun k=>l.getD k ⟨none,none,.dead⟩) T H nx (K .normal)
 | .mixS m l C,T₀,H₀,nx₀,K=>(m ≠ 9∧∃ T H nx Hf,Gh T₀ H₀ nx₀ T H nx Hf∧aj P (match m with | 1=>.draw | _=>.fresh nx) l T H nx (K .normal)) ∨
     ∃ T H nx Hf S,Gh T₀ H₀ nx₀ T H nx Hf∧Sub S H∧a6 P S (C.map fun k=>(l.getD k.1 ⟨none,none,.dead⟩,k.2)) T H nx (K .normal)
 | .seq x y,T,H,nx,K=>aD P x T H nx fun e T H nx=>aH e (aD P y T H nx K) (K e T H nx)
 | .cond c x y,T,H,nx,K=>aR (ov T c) (aD P x T H nx K) (aD P y T H nx K)
 | .block id b,T,H,nx,K=>aD P b T H nx fun e T H nx=>K (iO id e) T H nx
 | .loop b,T,H,nx,K=>aP (aD P b) T H nx K
 | .exit id,T,H,nx,K=>K (.exit id) T H nx
 | .ret,T,H,nx,K=>K .ret T H nx
 | .rangeF g ps a b,T,H,nx,K=>∃ f caps,ov T g=.func f caps∧∀ (c0:AV) (cj:AEx→AV),
     (∀ (args:List AV) (H':Hp) (nx':Nat) (K':AV→Hp→Nat→Prop),H' nx=some [c0]→args.length=ps.length →
      aD P a (fA T ps args) H' nx' (fun e T2 H2 nx2=>aH e (H2 nx=some [c0]∧aD P b T2 (bK H2 nx) nx2 fun e T3 H3 nx3=>aH e (K' (.bool true) (aq H3 nx [c0]) nx3) (K' (.bool false) (aq H3 nx [cj e]) nx3)) False) →
      Yl P nx args H' nx' K') →
     Fn P f (.yld nx :: caps) (aq H nx [c0]) (nx + 1) fun _ H' nx'=>(H' nx=some [c0]∧K .normal T (bK H' nx) nx') ∨ ∃ e,e ≠ .normal∧H' nx=some [cj e]∧K e T (bK H' nx) nx'
def nZ:Op→Option IC
 | .call { callee:=.value _,.. }=>some .call
 | op=>match opk op with
  | .pure | .touch=>some .val
  | .alloc | .write=>some .eff
  | .other=>none
def er (P:Program) (op:Op):Option Ins:=match nZ op with
 | some .call=>match gw op with
  | some (f,args)=>some (.call (.of f) (args.toList.map .of))
  | none=>none
 | some .val=>match eB P op with
  | some i=>if ic i=.val then some i else none
  | none=>none
 | some .eff=>match gF P op with
  | some i=>if ic i=.eff then some i else none
  | none=>none
 | _=>none
def dG (P:Program) (op:Op):Ins:=match er P op with
 | some i=>i
 | none=>match re P op with
  | some i=>if ic i=.sp then i else .dead
  | none=>.dead
def wI (dsts:List (Option Nat)):Option (Nat × Bool)→Option (Option (Nat × Bool))
 | none=>some none
 | some (j,want)=>match dsts[j]? with
  | some (some d)=>some (some (d,want))
  | _=>none
def qV (P:Program) (N:Nat) (dsts:List (Option Nat)) (o:Oper):Option Op2 :=
 if dok N o.dst then (match wI dsts o.guard with
  | some g=>some ⟨o.dst,g,dG P o.op⟩
  | none=>none) else none
def jR (P:Program) (N:Nat) (dsts:List (Option Nat)):List Oper→Option (List Op2)
 | []=>some []
 | o :: l=>match qV P N dsts o,jR P N dsts l with
  | some o,some l=>some (o :: l)
  | _,_=>none
def vpP (P:Program) (op:Op):Bool:=ws op || (opk op == .pure && (er P op).isSome)
theorem mT (P:Program):VP (vpP P):=⟨fun op h=>by
 unfold vpP at h
 rw [Bool.or_eq_true,Bool.and_eq_true] at h
 rcases h with h | h
 ·exact sN h
 ·simpa using h.1,fun op h=>by unfold vpP; rw [h]; rfl⟩
def pp (P:Program) (ops:List Oper):Bool:=ops.any fun o=>opk o.op == .other || (opk o.op == .pure && !vpP P o.op)
def zJ (P:Program) (ops:List Oper):List Nat :=
 let m:=Region.before ops.toArray
 let r:=List.range ops.length
 let sp:=r.filter fun i=>!vpP P (ops.getD i default).op
 let C:=sp.foldl (fun acc s=>acc ++ (r.filter fun i=>vpP P (ops.getD i default).op && !acc.contains i && !sp.any fun q=>dj m i q && !acc.contains q) ++ [s]) []
 C ++ r.filter fun i=>!C.contains i
def zB (P:Program) (N:Nat) (ops:List Oper):Bool :=
 (pp P ops || ops.any fun o=>nZ o.op == some .call) && qe (vpP P) N ops (zJ P ops)
def svP (P:Program) (op:Op):Bool:=sv (vpP P) op
def yw (P:Program) (ops:List Oper):List Nat :=
 let m:=Region.before ops.toArray
 let r:=List.range ops.length
 let sp:=r.filter fun i=>!svP P (ops.getD i default).op
 let C:=sp.foldl (fun acc s=>acc ++ (r.filter fun i=>svP P (ops.getD i default).op && !acc.contains i && !sp.any fun q=>dj m i q && !acc.contains q) ++ [s]) []
 C ++ r.filter fun i=>!C.contains i
def yx (P:Program) (N:Nat) (ops:List Oper):Bool :=
 (pp P ops || (ops.any fun o=>nZ o.op == some .call) || !cm false ops) && (ops.all fun o=>!dL o.op || (er P o.op).isSome) && jT (vpP P) (fun _=>false) N ops (yw P ops)
def ey (P:Program) (bp:Op→Bool) (ops:List Oper) (k:Nat):Nat:=if (bp (ops.getD k default).op && eo (ops.getD k default).op)=true then 3 else if svP P (ops.getD k default).op=true then 0 else if ez ops k=true then 1 else 2
def sY (P:Program) (bp:Op→Bool) (ops:List Oper):List Nat :=
 let m:=Region.before ops.toArray
 let r:=List.range ops.length
 let v:=fun i=>svP P (ops.getD i default).op || (bp (ops.getD i default).op && eo (ops.getD i default).op)
 let sp:=r.filter fun i=>!v i
 let C:=sp.foldl (fun acc s=>acc ++ (r.filter fun i=>v i && !acc.contains i && !sp.any fun q=>dj m i q && !acc.contains q) ++ [s]) []
 C ++ r.filter fun i=>!C.contains i
def th (P:Program) (bp:Op→Bool) (N:Nat) (ops:List Oper):Bool :=
 (ops.all fun o=>!(dL o.op || (bp o.op && eo o.op)) || (er P o.op).isSome) && jT (vpP P) bp N ops (sY P bp ops)
def bpA (P:Program) (op:Op):Bool:=match er P op with
 | some (.bldS 1 _ _ _)=>true
 | _=>false
def yg (P:Program) (N:Nat) (ops:List Oper):Bool :=
 (ops.any fun o=>bpA P o.op) && (ops.any fun o=>eo o.op && !bpA P o.op) && th P (bpA P) N ops
def iv (P:Program) (N:Nat):Code→Option C2
 | .skip=>some .skip
 | .label _=>some .skip
 | .region _ ops draw=>match jR P N (ops.toList.map (·.dst)) ops.toList with
  | some l=>if draw=true then (if yg P N ops.toList=true then some (.mixS 9 l ((sY P (bpA P) ops.toList).map fun k=>(k,ey P (bpA P) ops.toList k))) else if zB P N ops.toList=true then some (.mix (if pp P ops.toList=true then 9 else if cm false ops.toList=true then 1 else if cm true ops.toList=true then 2 else 9) l (zJ P ops.toList)) else if yx P N ops.toList=true then some (.mixS (if pp P ops.toList=true then 9 else if cm false ops.toList=true then 1 else if cm true ops.toList=true then 2 else 9) l ((yw P ops.toList).map fun k=>(k,ey P (fun _=>false) ops.toList k))) else if cm false ops.toList=true then some (.ops 1 l) else if cm true ops.toList=true then some (.ops 2 l) else if th P (fun _=>true) N ops.toList=true then some (.mixS 9 l ((sY P (fun _=>true) ops.toList).map fun k=>(k,ey P (fun _=>true) ops.toList k))) else none) else some (.ops 0 l)
  | none=>none
 | .seq a b=>match iv P N a,iv P N b with
  | some a,some b=>some (.seq a b)
  | _,_=>none
 | .cond c a b=>match iv P N a,iv P N b with
  | some a,some b=>some (.cond (.of c) a b)
  | _,_=>none
 | .block id b=>match iv P N b with
  | some b=>some (.block id b)
  | none=>none
 | .loop b=>match iv P N b with
  | some b=>some (.loop b)
  | none=>none
 | .exit id=>some (.exit id)
 | .ret=>some .ret
 | .rangeFunc g ps a b=>if ps.toList.all (fun t=>decide (t < N))=true then (match iv P N a,iv P N b with
  | some a,some b=>some (.rangeF (.of g) ps.toList a b)
  | _,_=>none) else none
 | _=>none
theorem iL {α:Type} {x:Option α} {A B:α→Prop} (hab:∀ a,A a→B a) (h:az x A):az x B:=by
 cases x with
 | none=>exact h
 | some a=>exact hab a h
theorem v9 {P:Program} {dm:DM} {op:Op} {i:Ins} {T:Tm} (hc:(eB P op=some i∧opk op ≠ .write) ∨ gF P op=some i) (h:dm2 dm T i=true):mq dm T op=true:=by
 cases dm with
 | text=>rfl
 | draw=>rfl
 | fresh m =>
  rcases hc with ⟨hc,hk⟩ | hc
  ·cases op with
   | load t a =>
    simp only [eB] at hc
    split at hc
    ·split at hc
     ·split at hc
      ·cases hc
       simp only [dm2,nO,a9] at h
       simp only [mq,lz]; exact h
      ·cases hc
     ·cases hc
      simp only [dm2,nO,a9] at h
      simp only [mq,lz]; exact h
    ·cases hc
   | store t p x=>exact absurd rfl hk
   | _=>simpa [mq,lz] using hk
  ·cases op with
   | store t p x =>
    simp only [gF] at hc
    split at hc
    ·cases hc
     simp only [dm2,qN,a9] at h
     simp only [mq,lz]; exact h
    ·cases hc
   | alloc e=>rfl
   | box e x=>rfl
   | buildSlice t len parts=>rfl
   | makeSlice t l c=>rfl
   | call c =>
    obtain ⟨callee,args,argTypes⟩:=c
    cases callee with
    | builtin b =>
     obtain ⟨args⟩:=args
     obtain ⟨argTypes⟩:=argTypes
     cases b with
     | append =>
      rcases args with _ | ⟨x,_ | ⟨y,_ | ⟨z,l⟩⟩⟩
      ·cases hc
      ·cases hc
      ·rcases argTypes with _ | ⟨t,_ | ⟨u,_ | ⟨v,l⟩⟩⟩
       ·cases hc
       ·cases hc
       ·simp only [gF] at hc
        split at hc
        ·cases hc
        ·split at hc
         ·cases hc
          cases h
         ·split at hc
          ·split at hc
           ·split at hc
            ·cases hc
             cases h
            ·cases hc
           ·cases hc
          ·cases hc
       ·cases hc
      ·cases hc
     | _=>cases hc
    | _=>cases hc
   | _=>cases hc
theorem xJ {P:Program} {dm:DM} {op:Op} {i:Ins} {T:Tm} {H:Hp} {nx:Nat} {K:AV→Hp→Nat→Prop} (hc:er P op=some i) (h:aX P dm i T H nx K):lG P dm op T H nx K:=by
 unfold lG
 unfold er at hc
 split at hc
 ·rename_i hk
  split at hc
  ·rename_i f args hf
   cases hc
   have h:(az (jt (ov T (.of f))) fun y=>match (generalizing:=false) dm.isText with
    | false=>aO P y.1 ((args.toList.map Opd.of).map (ov T) ++ y.2) H fun r=>K r H nx
    | true=>Fn P y.1 ((args.toList.map Opd.of).map (ov T) ++ y.2) H nx K) ∨ (dm.isText=true∧((∃ b,ov T (.of f)=.yld b∧Yl P b ((args.toList.map Opd.of).map (ov T)) H nx K) ∨ ∃ g fs,ov T (.of f)=.bfn g fs∧Fn P g (fs ++ (args.toList.map Opd.of).map (ov T)) H nx K)):=h
   rw [a9,fG] at h
   obtain ⟨ts,rfl⟩:=hZ hf
   rcases h with h | ⟨h1,⟨b,h2,h3⟩ | ⟨g,fs,h2,h3⟩⟩
   ·exact .inl h
   ·exact .inr ⟨h1,qw h2 h3⟩
   ·exact .inr ⟨h1,qj h2 h3⟩
  ·cases hc
 ·rename_i hk
  split at hc
  ·rename_i j hj
   split at hc
   ·rename_i hic
    cases hc
    have hoc:opc op=.val∧opk op ≠ .write:=by
     unfold nZ at hk
     split at hk
     ·cases hk
     ·rename_i hn
      unfold opc
      split
      ·rename_i a b c; exact absurd rfl (hn _ _ _)
      ·split at hk <;> rename_i hkk <;> (try rw [hkk]) <;> first | (cases hk; done) | (exact ⟨rfl,by decide⟩)
    unfold aX at h
    rw [hic] at h
    simp only at h
    left
    unfold fH
    rw [hoc.1]
    simp only
    refine ⟨v9 (.inl ⟨hj,hoc.2⟩) h.1,?_⟩
    have h:=h.2
    cases hv:a8 T H i with
    | none=>rw [hv] at h; exact h.elim
    | some r=>rw [ph hj hv]; rw [hv] at h; exact h
   ·cases hc
  ·cases hc
 ·rename_i hk
  split at hc
  ·rename_i j hj
   split at hc
   ·rename_i hic
    cases hc
    have hoc:opc op=.eff:=by
     unfold nZ at hk
     split at hk
     ·cases hk
     ·rename_i hn
      unfold opc
      split
      ·rename_i a b c; exact absurd rfl (hn _ _ _)
      ·split at hk <;> rename_i hkk <;> (try rw [hkk]) <;> cases hk
    unfold aX at h
    rw [hic] at h
    simp only at h
    left
    unfold fH
    rw [hoc]
    simp only
    refine ⟨v9 (.inr hj) h.1,?_⟩
    have h:=h.2
    cases hv:eY T H nx i with
    | none=>rw [hv] at h; exact h.elim
    | some r=>rw [tx hj hv]; rw [hv] at h; exact h
   ·cases hc
  ·cases hc
 ·cases hc
theorem mi {P:Program} {dm:DM} {op:Op} {T:Tm} {H:Hp} {nx:Nat} {K:AV→Hp→Nat→Prop} (h:aX P dm (dG P op) T H nx K):lG P dm op T H nx K:=by
 unfold dG at h
 split at h
 ·rename_i i hi; exact xJ hi h
 ·split at h
  ·rename_i i hi
   split at h
   ·rename_i hic
    unfold aX at h
    rw [hic] at h
    exact .inr ⟨h.1,yP hi h.2⟩
   ·exact h.2.elim
  ·exact h.2.elim
theorem vS {dsts:List (Option Nat)} {T:Tm} {g:Option (Nat × Bool)} {g':Option (Nat × Bool)} (h:wI dsts g=some g'):gval T dsts g=g2 T g':=by
 unfold wI at h
 split at h
 ·cases h; rfl
 ·split at h
  ·rename_i d hd
   cases h
   simp only [gval,hd,g2]
   generalize T d=v
   cases v <;> try rfl
  ·cases h
theorem dM {P:Program} {N:Nat} {dm:DM} {dsts:List (Option Nat)} {K:SP}:∀ (l:List Oper) (l2:List Op2) {T:Tm} {H:Hp} {nx:Nat},jR P N dsts l=some l2→aj P dm l2 T H nx K→j0 P N dm dsts l T H nx K
 | [],l2,T,H,nx,hc,h=>by cases hc; exact h
 | o :: l,l2,T,H,nx,hc,h=>by
  simp only [jR] at hc
  split at hc
  ·rename_i o2 r2 ho hr
   cases hc
   unfold qV at ho
   split at ho
   ·rename_i hd
    split at ho
    ·rename_i g hg
     cases ho
     refine ⟨hd,?_⟩
     rw [vS hg]
     have h:aL (g2 T g) (aX P dm (dG P o.op) T H nx fun r H nx=>aj P dm r2 (aE T o.dst r) H nx K) (aj P dm r2 (aE T o.dst (.tup [])) H nx K):=h
     cases hgv:g2 T g with
     | none=>rw [hgv] at h; exact h.elim
     | some b =>
      rw [hgv] at h
      cases b with
      | true =>
       have h:aX P dm (dG P o.op) T H nx fun r H nx=>aj P dm r2 (aE T o.dst r) H nx K:=h
       exact eO (mi h) (fun r H nx hh=>dM l r2 hr hh)
      | false=>exact dM l r2 hr h
    ·cases ho
   ·cases ho
  ·cases hc
theorem wq {P:Program} {op:Op} {T:Tm} {H:Hp} {nx:Nat} {K:AV→Hp→Nat→Prop} (h:aX P .text (dG P op) T H nx K):eu (vpP P) P op T H nx K:=by
 unfold eu
 split
 ·rename_i hk0
  have hk:=(mT P).pure _ hk0
  have hsome:(er P op).isSome=true:=by
   unfold vpP at hk0
   rw [Bool.or_eq_true,Bool.and_eq_true] at hk0
   rcases hk0 with h | h
   ·cases op <;> first | (cases h; done) | rfl
   ·exact h.2
  obtain ⟨i,hi⟩:=Option.isSome_iff_exists.1 hsome
  unfold dG at h
  rw [hi] at h
  have h:aX P .text i T H nx K:=h
  unfold er at hi
  have hic:nZ op=some .val:=by
   unfold nZ
   split
   ·simp [opk] at hk
   ·rw [hk]
  rw [hic] at hi
  simp only at hi
  split at hi
  ·rename_i j hj
   split at hi
   ·rename_i hc
    cases hi
    unfold aX at h
    rw [hc] at h
    obtain ⟨_,h⟩:=h
    obtain ⟨r,hr,hk⟩:=bU h
    rw [ph hj hr]; exact hk
   ·cases hi
  ·cases hi
 ·exact mi h
theorem kr {P:Program} {N:Nat} {dsts:List (Option Nat)}:∀ {l:List Oper} {l2:List Op2},jR P N dsts l=some l2→∀ {k:Nat} {o:Oper},l[k]?=some o→∃ o2,l2[k]?=some o2∧qV P N dsts o=some o2
 | [],l2,h,k,o,ho=>by simp at ho
 | x :: l,l2,h,k,o,ho=>by
  simp only [jR] at h
  split at h
  ·rename_i o2 r2 h1 h2
   cases h
   cases k with
   | zero=>simp at ho; subst ho; exact ⟨o2,rfl,h1⟩
   | succ k =>
    obtain ⟨o3,h3,h4⟩:=kr h2 (k:=k) (o:=o) (by simpa using ho)
    exact ⟨o3,by simpa using h3,h4⟩
  ·cases h
theorem nF {P:Program} {N:Nat} {ops:List Oper} {l:List Op2} (hl:jR P N (ops.map (·.dst)) ops=some l) {K:SP}:∀ (C:List Nat),(∀ k ∈ C,k < ops.length)→∀ {T:Tm} {H:Hp} {nx:Nat},
    aj P .text (C.map fun k=>l.getD k ⟨none,none,.dead⟩) T H nx K→gn (vpP P) P N (ops.map (·.dst)) (C.map fun k=>ops.getD k default) T H nx K
 | [],_,_,_,_,h=>h
 | k :: C,hC,T,H,nx,h=>by
  have hk:=hC k (by simp)
  obtain ⟨o,ho⟩:=bH hk
  obtain ⟨o2,ho2,hc⟩:=kr hl ho
  have e1:ops.getD k default=o:=bW ho
  have e2:l.getD k ⟨none,none,.dead⟩=o2:=by simp [List.getD,ho2]
  rw [List.map_cons,e1]
  rw [List.map_cons,e2] at h
  unfold qV at hc
  split at hc
  ·rename_i hd
   split at hc
   ·rename_i g hg
    cases hc
    refine ⟨hd,?_⟩
    rw [vS hg]
    have h:aL (g2 T g) (aX P .text (dG P o.op) T H nx fun r H nx=>aj P .text (C.map fun k=>l.getD k ⟨none,none,.dead⟩) (aE T o.dst r) H nx K) (aj P .text (C.map fun k=>l.getD k ⟨none,none,.dead⟩) (aE T o.dst (.tup [])) H nx K):=h
    cases hgv:g2 T g with
    | none=>rw [hgv] at h; exact h.elim
    | some b =>
     rw [hgv] at h
     cases b with
     | true =>
      have h:aX P .text (dG P o.op) T H nx fun r H nx=>aj P .text (C.map fun k=>l.getD k ⟨none,none,.dead⟩) (aE T o.dst r) H nx K:=h
      exact iV (wq h) (fun r H nx hh=>nF hl C (fun q hq=>hC q (by simp [hq])) hh)
     | false=>exact nF hl C (fun q hq=>hC q (by simp [hq])) h
   ·cases hc
  ·cases hc
theorem yf {P:Program} {op:Op} {T:Tm} {r:AV} (hb:eo op=true) (hc:(er P op).isSome=true) (h:ny T (dG P op)=some r):qy P T op=some r:=by
 obtain ⟨i,hi⟩:=Option.isSome_iff_exists.1 hc
 have hcd:dG P op=i:=by unfold dG; rw [hi]
 rw [hcd] at h
 cases op <;> first | (cases hb; done) | skip
 rename_i t len parts
 have hi2:gF P (.buildSlice t len parts)=some i:=by
  unfold er at hi
  have:nZ (.buildSlice t len parts)=some .eff:=rfl
  rw [this] at hi
  simp only at hi
  split at hi
  ·rename_i j hj
   split at hi
   ·cases hi; exact hj
   ·cases hi
  ·cases hi
 unfold qy
 rw [if_pos hb]
 unfold ny at h
 split at h
 ·rename_i sz len' z parts'
  obtain ⟨n,H',k,cs,h1,h2,h3,h4,h5⟩:=kN h
  rw [tx hi2 h1]
  rw [h1] at h
  exact h
 ·cases h
theorem na {P:Program} {bp:Op→Bool} {N:Nat} {ops:List Oper} {l:List Op2} (hl:jR P N (ops.map (·.dst)) ops=some l) (hld:(ops.all fun o=>!dL o.op || (er P o.op).isSome)=true) (hbd:(ops.all fun o=>!(bp o.op && eo o.op) || (er P o.op).isSome)=true) {S:Hp} {K:SP}:∀ (C:List Nat),(∀ k ∈ C,k < ops.length)→∀ {T:Tm} {H:Hp} {nx:Nat},
    a6 P S (C.map fun k=>(l.getD k ⟨none,none,.dead⟩,ey P bp ops k)) T H nx K→fl (vpP P) bp P N (ops.map (·.dst)) S (C.map (go ops)) T H nx K
 | [],_,_,_,_,h=>h
 | k :: C,hC,T,H,nx,h=>by
  have hk:=hC k (by simp)
  obtain ⟨o,ho⟩:=bH hk
  obtain ⟨o2,ho2,hc⟩:=kr hl ho
  have e1:ops.getD k default=o:=bW ho
  have e2:l.getD k ⟨none,none,.dead⟩=o2:=by simp [List.getD,ho2]
  have hrec:=fun (T:Tm) (H:Hp) (nx:Nat) hh=>na hl hld hbd (S:=S) (K:=K) C (fun q hq=>hC q (by simp [hq])) (T:=T) (H:=H) (nx:=nx) hh
  rw [List.map_cons]
  rw [List.map_cons,e2] at h
  have ep:go ops k=(o,ez ops k):=by unfold go; rw [e1]
  have ek:ey P bp ops k=if (bp o.op && eo o.op)=true then 3 else if sv (vpP P) o.op=true then 0 else if ez ops k=true then 1 else 2:=by unfold ey svP; rw [e1]
  rw [ep]
  rw [ek] at h
  unfold qV at hc
  split at hc
  case isFalse=>cases hc
  rename_i hd
  split at hc
  case h_2=>cases hc
  rename_i g hg
  cases hc
  refine ⟨hd,?_⟩
  show aL (gval T (ops.map (·.dst)) o.guard) (du (vpP P) bp P S o.op (ez ops k) T H nx fun r H' nx'=>fl (vpP P) bp P N (ops.map (·.dst)) S (C.map (go ops)) (aE T o.dst r) H' nx' K) (fl (vpP P) bp P N (ops.map (·.dst)) S (C.map (go ops)) (aE T o.dst (.tup [])) H nx K)
  rw [vS hg]
  by_cases hbl:(bp o.op && eo o.op)=true
  ·rw [if_pos hbl] at h
   have h:aL (g2 T g) (az (ny T (dG P o.op)) fun r=>a6 P S (C.map fun k=>(l.getD k ⟨none,none,.dead⟩,ey P bp ops k)) (aE T o.dst r) H nx K) (a6 P S (C.map fun k=>(l.getD k ⟨none,none,.dead⟩,ey P bp ops k)) (aE T o.dst (.tup [])) H nx K):=h
   cases hgv:g2 T g with
   | none=>rw [hgv] at h; exact h.elim
   | some b =>
    rw [hgv] at h
    cases b with
    | false=>exact hrec _ _ _ h
    | true =>
     have h:az (ny T (dG P o.op)) fun r=>a6 P S (C.map fun k=>(l.getD k ⟨none,none,.dead⟩,ey P bp ops k)) (aE T o.dst r) H nx K:=h
     show du (vpP P) bp P S o.op (ez ops k) T H nx _
     unfold du
     rw [if_pos (show nv (vpP P) bp o.op=true by unfold nv; rw [hbl,Bool.or_true])]
     obtain ⟨r,hr,hh⟩:=bU h
     rw [Bool.and_eq_true] at hbl
     have hsome:(er P o.op).isSome=true:=by
      have:=List.all_eq_true.1 hbd o (List.mem_of_getElem? ho)
      rw [hbl.1,hbl.2] at this
      simpa using this
     unfold mo
     rw [if_pos (show (bp o.op && eo o.op)=true by rw [hbl.1,hbl.2]; rfl),yf hbl.2 hsome hr]
     exact hrec _ _ _ hh
  have hnv:nv (vpP P) bp o.op=sv (vpP P) o.op:=by
   unfold nv
   cases hb:(bp o.op && eo o.op) with
   | true=>exact absurd hb hbl
   | false=>rw [Bool.or_false]
  have hnval:mo P bp T S o.op=bD P T S o.op:=by unfold mo; rw [if_neg hbl]
  rw [if_neg hbl] at h
  by_cases hs:sv (vpP P) o.op=true
  ·rw [if_pos hs] at h
   have h:aL (g2 T g) (az (a8 T S (dG P o.op)) fun r=>a6 P S (C.map fun k=>(l.getD k ⟨none,none,.dead⟩,ey P bp ops k)) (aE T o.dst r) H nx K) (a6 P S (C.map fun k=>(l.getD k ⟨none,none,.dead⟩,ey P bp ops k)) (aE T o.dst (.tup [])) H nx K):=h
   cases hgv:g2 T g with
   | none=>rw [hgv] at h; exact h.elim
   | some b =>
    rw [hgv] at h
    cases b with
    | false=>exact hrec _ _ _ h
    | true =>
     have h:az (a8 T S (dG P o.op)) fun r=>a6 P S (C.map fun k=>(l.getD k ⟨none,none,.dead⟩,ey P bp ops k)) (aE T o.dst r) H nx K:=h
     show du (vpP P) bp P S o.op (ez ops k) T H nx _
     unfold du
     rw [if_pos (hnv.trans hs),hnval]
     obtain ⟨r,hr,hh⟩:=bU h
     have hsome:(er P o.op).isSome=true:=by
      unfold sv at hs
      rw [Bool.or_eq_true] at hs
      rcases hs with hs | hs
      ·unfold vpP at hs
       rw [Bool.or_eq_true,Bool.and_eq_true] at hs
       rcases hs with h | h
       ·revert h; cases o.op <;> intro h <;> first | (cases h; done) | rfl
       ·exact h.2
      ·have:=List.all_eq_true.1 hld o (List.mem_of_getElem? ho)
       rw [hs] at this
       simpa using this
     obtain ⟨i,hi⟩:=Option.isSome_iff_exists.1 hsome
     have hcd:dG P o.op=i:=by unfold dG; rw [hi]
     rw [hcd] at hr
     have hic:nZ o.op=some .val:=by
      unfold sv at hs
      rw [Bool.or_eq_true] at hs
      rcases hs with hs | hs
      ·have hk:=(mT P).pure _ hs
       unfold nZ
       split
       ·rename_i heq; rw [heq] at hk; simp [opk] at hk
       ·rw [hk]
      ·revert hs; cases o.op <;> intro hs <;> first | (cases hs; done) | rfl
     unfold er at hi
     rw [hic] at hi
     simp only at hi
     split at hi
     ·rename_i j hj
      split at hi
      ·cases hi
       rw [ph hj hr]; exact hrec _ _ _ hh
      ·cases hi
     ·cases hi
  ·rw [if_neg hs] at h
   obtain ⟨q,hq,hq2,hq3⟩:∃ q,(if ez ops k=true then 1 else 2)=q + 1∧(ez ops k=true→q=0)∧q ≠ 2:=by
    by_cases hkk:ez ops k=true
    ·exact ⟨0,by rw [if_pos hkk],fun _=>rfl,by omega⟩
    ·exact ⟨1,by rw [if_neg hkk],fun h=>absurd h hkk,by omega⟩
   rw [hq] at h
   simp only [a6,if_neg hq3] at h
   have h:aL (g2 T g) (aX P .text (dG P o.op) T H nx fun r H' nx'=>(q=0→Sub S H')∧a6 P S (C.map fun k=>(l.getD k ⟨none,none,.dead⟩,ey P bp ops k)) (aE T o.dst r) H' nx' K) (a6 P S (C.map fun k=>(l.getD k ⟨none,none,.dead⟩,ey P bp ops k)) (aE T o.dst (.tup [])) H nx K):=h
   cases hgv:g2 T g with
   | none=>rw [hgv] at h; exact h.elim
   | some b =>
    rw [hgv] at h
    cases b with
    | false=>exact hrec _ _ _ h
    | true =>
     have h:aX P .text (dG P o.op) T H nx fun r H' nx'=>(q=0→Sub S H')∧a6 P S (C.map fun k=>(l.getD k ⟨none,none,.dead⟩,ey P bp ops k)) (aE T o.dst r) H' nx' K:=h
     show du (vpP P) bp P S o.op (ez ops k) T H nx _
     unfold du
     rw [if_neg (by rw [hnv]; exact hs)]
     exact eO (mi h) (fun r H nx hh=>⟨fun hkk=>hh.1 (hq2 hkk),hrec _ _ _ hh.2⟩)
theorem tE {P:Program} {bp:Op→Bool} {N:Nat} {rid:Nat} {ops:Array Oper} {l:List Op2} (hl:jR P N (ops.toList.map (·.dst)) ops.toList=some l) (hmx:th P bp N ops.toList=true) {T:Tm} {H:Hp} {nx:Nat} {K:CP}
    (h:aD P (.mixS 9 l ((sY P bp ops.toList).map fun k=>(k,ey P bp ops.toList k))) T H nx K):awp P N (.region rid ops true) T H nx K:=by
 unfold th at hmx
 rw [Bool.and_eq_true] at hmx
 obtain ⟨hld,hok⟩:=hmx
 rcases h with ⟨h9,_⟩ | ⟨T,H,nx,Hf,S,hg,hs,h⟩
 ·exact absurd rfl h9
 ·rw [List.map_map] at h
  rw [List.all_eq_true] at hld
  refine ⟨T,H,nx,Hf,hg,.inr (.inr ⟨_,bp,_,S,mT P,hok,hs,na hl ?_ ?_ _ (kA hok).lt h⟩)⟩
  ·rw [List.all_eq_true]
   intro o ho
   have:=hld o ho
   cases h1:dL o.op with
   | false=>rfl
   | true=>rw [h1] at this; simpa using this
  ·rw [List.all_eq_true]
   intro o ho
   have:=hld o ho
   cases h1:(bp o.op && eo o.op) with
   | false=>rfl
   | true=>rw [h1] at this; simpa using this
theorem eE {P:Program} {N:Nat} (hm:P.follows .mixedOrders=true):∀ (c:Code) (c2:C2) {T:Tm} {H:Hp} {nx:Nat} {K:CP},iv P N c=some c2→aD P c2 T H nx K→awp P N c T H nx K
 | .skip,c2,_,_,_,_,hc,h=>by cases hc; exact h
 | .label _,c2,_,_,_,_,hc,h=>by cases hc; exact h
 | .exit _,c2,_,_,_,_,hc,h=>by cases hc; exact h
 | .ret,c2,_,_,_,_,hc,h=>by cases hc; exact h
 | .region _ ops draw,c2,_,_,_,_,hc,h=>by
  simp only [iv] at hc
  split at hc
  ·rename_i l hl
   cases draw with
   | true =>
    simp only [if_true] at hc
    split at hc
    ·rename_i hmx
     cases hc
     unfold yg at hmx
     rw [Bool.and_eq_true] at hmx
     exact tE hl hmx.2 h
    split at hc
    ·rename_i hmx
     cases hc
     unfold zB at hmx
     rw [Bool.and_eq_true] at hmx
     obtain ⟨_,hok⟩:=hmx
     rcases h with ⟨h9,T,H,nx,Hf,hg,h⟩ | ⟨T,H,nx,Hf,hg,h⟩
     ·refine ⟨T,H,nx,Hf,hg,.inl ?_⟩
      split at h9
      ·exact absurd rfl h9
      ·rename_i ho
       rw [if_neg ho] at h
       split at h9
       ·rename_i hd
        rw [if_pos hd] at h ⊢
        exact dM _ _ hl h
       ·rename_i hd
        rw [if_neg hd] at h ⊢
        split at h9
        ·rename_i hd2
         rw [if_pos hd2] at h
         exact ⟨hd2,dM _ _ hl h⟩
        ·exact absurd rfl h9
     ·exact ⟨T,H,nx,Hf,hg,  .inr (.inl ⟨_,_,mT P,hok,nF hl _ (rC hok).lt h⟩)⟩
    ·split at hc
     ·rename_i hmx
      cases hc
      unfold yx at hmx
      rw [Bool.and_eq_true,Bool.and_eq_true] at hmx
      obtain ⟨⟨_,hld⟩,hok⟩:=hmx
      rcases h with ⟨h9,T,H,nx,Hf,hg,h⟩ | ⟨T,H,nx,Hf,S,hg,hs,h⟩
      ·refine ⟨T,H,nx,Hf,hg,.inl ?_⟩
       split at h9
       ·exact absurd rfl h9
       ·rename_i ho
        rw [if_neg ho] at h
        split at h9
        ·rename_i hd
         rw [if_pos hd] at h ⊢
         exact dM _ _ hl h
        ·rename_i hd
         rw [if_neg hd] at h ⊢
         split at h9
         ·rename_i hd2
          rw [if_pos hd2] at h
          exact ⟨hd2,dM _ _ hl h⟩
         ·exact absurd rfl h9
      ·rw [List.map_map] at h
       exact ⟨T,H,nx,Hf,hg,.inr (.inr ⟨_,fun _=>false,_,S,mT P,hok,hs,na hl hld (List.all_eq_true.2 fun _ _=>rfl) _ (kA hok).lt h⟩)⟩
     split at hc
     ·rename_i hd
      cases hc
      obtain ⟨T,H,nx,Hf,hg,h⟩:=h
      refine ⟨T,H,nx,Hf,hg,?_⟩
      simp only
      rw [if_pos hd]
      exact .inl (dM _ _ hl h)
     ·rename_i hd
      split at hc
      ·rename_i hd2
       cases hc
       obtain ⟨T,H,nx,Hf,hg,h⟩:=h
       refine ⟨T,H,nx,Hf,hg,?_⟩
       simp only
       rw [if_neg hd]
       exact .inl ⟨hd2,dM _ _ hl h⟩
      ·split at hc
       ·rename_i hmx
        cases hc
        exact tE hl hmx h
       ·cases hc
   | false =>
    simp only [Bool.false_eq_true,if_false] at hc
    cases hc
    obtain ⟨T,H,nx,Hf,hg,h⟩:=h
    exact ⟨T,H,nx,Hf,hg,dM _ _ hl h⟩
  ·cases hc
 | .seq a b,c2,_,_,_,K,hc,h=>by
  simp only [iv] at hc
  split at hc
  ·rename_i a2 b2 ha hb
   cases hc
   refine dv a (eE hm a a2 ha h) (fun e T H nx h=>?_)
   cases e with
   | normal=>exact eE hm b b2 hb h
   | exit i=>exact h
   | ret=>exact h
  ·cases hc
 | .cond c a b,c2,_,_,_,K,hc,h=>by
  simp only [iv] at hc
  split at hc
  ·rename_i a2 b2 ha hb
   cases hc
   simp only [aD,a9] at h
   simp only [awp]
   unfold aR at h ⊢
   split at h
   ·exact ⟨fun hh=>eE hm a a2 ha (h.1 hh),fun hh=>eE hm b b2 hb (h.2 hh)⟩
   ·exact h
  ·cases hc
 | .block id b,c2,_,_,_,K,hc,h=>by
  simp only [iv] at hc
  split at hc
  ·rename_i b2 hb
   cases hc
   exact eE hm b b2 hb h
  ·cases hc
 | .loop b,c2,T,H,nx,K,hc,h=>by
  simp only [iv] at hc
  split at hc
  ·rename_i b2 hb
   cases hc
   obtain ⟨n,h⟩:=h
   refine ⟨n,?_⟩
   induction n generalizing T H nx with
   | zero=>exact h
   | succ n ih =>
    obtain ⟨T',H',nx',Hf,hg,h⟩:=h
    refine ⟨T',H',nx',Hf,hg,dv b (eE hm b b2 hb h) (fun e T H nx h=>?_)⟩
    cases e with
    | normal=>exact ih _ _ _ h
    | exit i=>exact h
    | ret=>exact h
  ·cases hc
 | .rangeFunc g ps a b,c2,T,H,nx,K,hc,h=>by
  simp only [iv] at hc
  split at hc
  case isFalse=>cases hc
  case isTrue hps =>
  split at hc
  ·rename_i a2 b2 ha hb
   cases hc
   obtain ⟨f,caps,h1,h2⟩:=h
   rw [a9] at h1
   show RF P N _ T H nx K
   refine z7 h1 (fun r hr=>?_)
   refine h2 (.oloop r T) (o9 r T) (fun args H' nx' K' hH hl hw=>?_)
   refine Yl.of_awp hr hm (fun t ht=>by simpa using List.all_eq_true.1 hps t ht) hH (by simpa using hl) (dv a (eE hm a a2 ha hw) (fun e T2 H2 nx2 h=>?_))
   cases e with
   | normal=>exact ⟨h.1,eE hm b b2 hb h.2⟩
   | exit i=>exact h
   | ret=>exact h
  ·cases hc
 | .scope _,_,_,_,_,_,hc,_=>by cases hc
 | .goto _,_,_,_,_,_,hc,_=>by cases hc
 | .refuse _,_,_,_,_,_,hc,_=>by cases hc
inductive RV where
 | t (n:Nat)
 | c1 (n:Nat)
 | cn (n k:Nat)
structure F2 where
 n:Nat
 res:List RV
 body:C2
def fO (P:Program):List ResultVar→Option (List RV)
 | []=>some []
 | .tmp t :: l=>match fO P l with | some l=>some (.t t :: l) | none=>none
 | .cell a t :: l=>if tok P t=true then (match fO P l with
  | some l=>if jG P t=true then (if 0 < P.cellsOf t then some (.cn a (P.cellsOf t) :: l) else none) else some (.c1 a :: l)
  | none=>none) else none
def sQ (P:Program) (fn:Func):Option F2 :=
 match fn.body with
 | some c=>if fn.name == "runtime.NumGoroutine" then none else match iv P fn.ntmps c,fO P fn.results.toList with
  | some b,some r=>some ⟨fn.ntmps,r,b⟩
  | _,_=>none
 | none=>none
def rv (T:Tm) (H:Hp):RV→Option AV
 | .t n=>some (T n)
 | .c1 n=>rd1 H (T n)
 | .cn n k=>(rd H k (T n)).map .agg
def wE (T:Tm) (H:Hp):List RV→(List AV→Prop)→Prop
 | [],K=>K []
 | a :: l,K=>az (rv T H a) fun x=>wE T H l fun xs=>K (x :: xs)
def bd (T:Tm) (H:Hp) (K:AV→Prop):List RV→Prop
 | [a]=>az (rv T H a) K
 | [a,b]=>az (rv T H a) fun x=>az (rv T H b) fun y=>K (.tup [x,y])
 | [a,b,c]=>az (rv T H a) fun x=>az (rv T H b) fun y=>az (rv T H c) fun z=>K (.tup [x,y,z])
 | []=>K (.tup [])
 | a :: b :: c :: d :: l=>wE T H (a :: b :: c :: d :: l) fun xs=>K (.tup xs)
theorem ms {P:Program} {T:Tm} {H:Hp} {r:ResultVar} {l:List ResultVar} {x:RV} {xs:List RV} {v:AV} (h:fO P (r :: l)=some (x :: xs)) (hv:rv T H x=some v) :
    fO P l=some xs∧gP P T H (r :: l)=(match gP P T H l with | some ys=>some (v :: ys) | none=>none):=by
 cases r with
 | tmp t =>
  simp only [fO] at h
  split at h
  ·rename_i ys hy
   cases h
   cases hv
   exact ⟨hy,rfl⟩
  ·cases h
 | cell a t =>
  simp only [fO] at h
  split at h
  ·rename_i h1
   split at h
   ·rename_i ys hy
    split at h
    ·rename_i h2
     split at h
     ·rename_i h3
      cases h
      refine ⟨hy,?_⟩
      simp only [rv] at hv
      simp only [gP,fM,h1,h2,if_true,if_pos h3,hv]
      cases gP P T H l <;> rfl
     ·cases h
    ·rename_i h2
     cases h
     refine ⟨hy,?_⟩
     simp only [rv] at hv
     simp only [gP,fM,h1,h2,if_true,hv]
     cases gP P T H l <;> rfl
   ·cases h
  ·cases h
theorem fR {P:Program} {l:List ResultVar} (h:fO P l=some []):l=[]:=by
 cases l with
 | nil=>rfl
 | cons r l =>
  cases r with
  | tmp t=>simp only [fO] at h; split at h <;> cases h
  | cell a t =>
   simp only [fO] at h
   split at h
   ·split at h
    ·split at h
     ·split at h <;> cases h
     ·cases h
    ·cases h
   ·cases h
theorem dA {P:Program} {l:List ResultVar} {x:RV} {xs:List RV} (h:fO P l=some (x :: xs)):∃ r l',l=r :: l':=by
 cases l with
 | nil=>cases h
 | cons r l=>exact ⟨r,l,rfl⟩
theorem tJ {P:Program} {T:Tm} {H:Hp}:∀ {r:List RV} {l:List ResultVar} {K:List AV→Prop},fO P l=some r→wE T H r K→∃ xs,gP P T H l=some xs∧xs.length=r.length∧K xs
 | [],l,K,h,hk=>by
  have:=fR h; subst this; exact ⟨[],rfl,rfl,hk⟩
 | a :: r,l,K,h,hk=>by
  obtain ⟨r1,l1,rfl⟩:=dA h
  have hk:az (rv T H a) fun x=>wE T H r fun xs=>K (x :: xs):=hk
  cases hv:rv T H a with
  | none=>rw [hv] at hk; exact hk.elim
  | some v =>
   rw [hv] at hk
   obtain ⟨h1,e1⟩:=ms h hv
   obtain ⟨xs,h2,h3,h4⟩:=tJ h1 hk
   exact ⟨v :: xs,by rw [e1,h2],by simp [h3],h4⟩
theorem xT {P:Program} {T:Tm} {H:Hp} {K:AV→Prop} {l:List ResultVar} {r:List RV} (h:fO P l=some r) (hk:bd T H K r):az (jk P T H l) K:=by
 have one:∀ {x:RV} {K':AV→Prop},az (rv T H x) K'→∃ v,rv T H x=some v∧K' v:=by
  intro x K' h
  cases hv:rv T H x with
  | none=>rw [hv] at h; exact h.elim
  | some v=>rw [hv] at h; exact ⟨v,rfl,h⟩
 rcases r with _ | ⟨a,_ | ⟨b,_ | ⟨c,_ | ⟨d,r⟩⟩⟩⟩
 ·have:=fR h; subst this; exact hk
 ·obtain ⟨r1,l1,rfl⟩:=dA h
  obtain ⟨v,hv,hk⟩:=one hk
  obtain ⟨h1,e1⟩:=ms h hv
  have:=fR h1; subst this
  simp only [jk,e1,gP]; exact hk
 ·obtain ⟨r1,l1,rfl⟩:=dA h
  obtain ⟨v,hv,hk⟩:=one hk
  obtain ⟨h1,e1⟩:=ms h hv
  obtain ⟨r2,l2,rfl⟩:=dA h1
  obtain ⟨v2,hv2,hk⟩:=one hk
  obtain ⟨h2,e2⟩:=ms h1 hv2
  have:=fR h2; subst this
  simp only [jk,e1,e2,gP]; exact hk
 ·obtain ⟨r1,l1,rfl⟩:=dA h
  obtain ⟨v,hv,hk⟩:=one hk
  obtain ⟨h1,e1⟩:=ms h hv
  obtain ⟨r2,l2,rfl⟩:=dA h1
  obtain ⟨v2,hv2,hk⟩:=one hk
  obtain ⟨h2,e2⟩:=ms h1 hv2
  obtain ⟨r3,l3,rfl⟩:=dA h2
  obtain ⟨v3,hv3,hk⟩:=one hk
  obtain ⟨h3,e3⟩:=ms h2 hv3
  have:=fR h3; subst this
  simp only [jk,e1,e2,e3,gP]; exact hk
 ·have hk:wE T H (a :: b :: c :: d :: r) fun xs=>K (.tup xs):=hk
  obtain ⟨xs,h1,h2,h3⟩:=tJ h hk
  unfold jk
  rw [h1]
  rcases xs with _ | ⟨x,_ | ⟨y,xs⟩⟩
  ·simp at h2
  ·simp at h2
  ·exact h3
structure Is (P:Program) (f:FuncId) (F:F2):Prop where
 out:∃ fn,P.funcs[f]?=some fn∧sQ P fn=some F
theorem Is.mk' {P:Program} {f:FuncId} {F:F2} {fn:Func} (h1:P.funcs[f]?=some fn) (h2:sQ P fn=some F):Is P f F:=⟨fn,h1,h2⟩
theorem Is.cok {P:Program} {f:FuncId} {F:F2} (h:Is P f F):cok P f=true:=by
 obtain ⟨fn,h1,h2⟩:=h.out
 unfold sQ at h2
 split at h2
 ·rename_i c hc
  split at h2
  ·cases h2
  ·rename_i hn
   unfold Go.Abs.cok
   simp only [h1,hc,Option.isSome_some,Bool.true_and,Bool.not_eq_true']
   simpa using hn
 ·cases h2
theorem Is.bodyOk {P:Program} {f:FuncId} {F:F2} (h:Is P f F) (hm:P.follows .mixedOrders=true) {args:List AV} {H:Hp} {nx:Nat} {K:AV→Hp→Nat→Prop} (hl:args.length ≤ F.n)
    (hb:aD P F.body (T0 args) H nx fun e T H nx=>aK e.ends (bd T H (fun x=>K x H nx) F.res)):∃ fn,P.funcs[f]?=some fn∧pk P fn args H nx K:=by
 obtain ⟨fn,h1,h2⟩:=h.out
 refine ⟨fn,h1,?_⟩
 unfold sQ at h2
 split at h2
 ·rename_i c hc
  split at h2
  ·cases h2
  ·split at h2
   ·rename_i b r hb' hr
    cases h2
    exact ⟨c,hc,hl,dv c (eE hm c b hb' hb) (fun e T H nx hh=>⟨hh.1,xT hr hh.2⟩)⟩
   ·cases h2
 ·cases h2
theorem Pure.of_c2 {P:Program} {f:FuncId} {F:F2} {args:List AV} {r:AV} (hm:P.follows .mixedOrders=true) (hf:Is P f F) (hl:args.length ≤ F.n)
    (hb:aD P F.body (T0 args) bk 0 fun e T H nx=>aK e.ends (bd T H (fun x=>Snap H x r) F.res)):Pure P f args r:=by
 obtain ⟨fn,h1,h2⟩:=hf.bodyOk hm (K:=fun x H nx=>Snap H x r) hl hb
 exact Pure.of_body hm h1 hf.cok h2
theorem Fn.of_c2 {P:Program} {f:FuncId} {F:F2} {args:List AV} {H:Hp} {nx:Nat} {K:AV→Hp→Nat→Prop} (hm:P.follows .mixedOrders=true) (hf:Is P f F) (hl:args.length ≤ F.n)
    (hb:aD P F.body (T0 args) H nx fun e T H nx=>aK e.ends (bd T H (fun x=>K x H nx) F.res)):Fn P f args H nx K:=by
 obtain ⟨fn,h1,h2⟩:=hf.bodyOk hm (K:=K) hl hb
 exact Fn.of_body hm h1 hf.cok h2
theorem dt.of_c2 {P:Program} {f:FuncId} {F:F2} {args:List AV} {r:AV} (hm:P.follows .mixedOrders=true) (hf:Is P f F) (hl:args.length ≤ F.n)
    (hb:aD P F.body (T0 args) bk 0 fun e T H nx=>aK e.ends (bd T H (fun x=>SnapF H x r) F.res)):dt P f args r :=
 dt.of_fn (Fn.of_c2 hm hf hl hb)
end Go.Abs
namespace Go.Abs
open Go.RowKit
theorem wP {i:Ins} {T:Tm} {H:Hp} {nx:Nat} {K K':AV→Hp→Nat→Prop} (h:isp i T H nx K) (hK:∀ r H nx,K r H nx→K' r H nx):isp i T H nx K':=by
 cases i <;> first | exact h | skip
 ·exact ⟨h.1,h.2.imp (hK _ _ _) (hK _ _ _)⟩
 ·rcases h with ⟨b,ks,vs,r,h1,h2,h3,h4,h5⟩ | ⟨b,ks,vs,bs,ck,r,h1,h2,h3,h4,h5⟩
  ·exact .inl ⟨b,ks,vs,r,h1,h2,h3,h4,hK _ _ _ h5⟩
  ·exact .inr ⟨b,ks,vs,bs,ck,r,h1,h2,h3,h4,hK _ _ _ h5⟩
 ·obtain ⟨b,ks,vs,bs,ck,r,h1,h2,h3,h4,h5⟩:=h; exact ⟨b,ks,vs,bs,ck,r,h1,h2,h3,h4,hK _ _ _ h5⟩
 ·rcases h with ⟨b,ks,vs,r,h1,h2,h3,h4,h5⟩ | ⟨b,ks,vs,bs,ck,r,h1,h2,h3,h4,h5⟩
  ·exact .inl ⟨b,ks,vs,r,h1,h2,h3,h4,hK _ _ _ h5⟩
  ·exact .inr ⟨b,ks,vs,bs,ck,r,h1,h2,h3,h4,hK _ _ _ h5⟩
 ·rcases h with ⟨b,ks,vs,h1,h2,h3⟩ | ⟨b,ks,vs,bs,ck,h1,h2,h3⟩
  ·exact .inl ⟨b,ks,vs,h1,h2,hK _ _ _ h3⟩
  ·exact .inr ⟨b,ks,vs,bs,ck,h1,h2,hK _ _ _ h3⟩
 ·rcases h with ⟨b,ks,vs,h1,h2,h3⟩ | ⟨b,ks,vs,bs,ck,h1,h2,h3⟩
  ·exact .inl ⟨b,ks,vs,h1,h2,hK _ _ _ h3⟩
  ·exact .inr ⟨b,ks,vs,bs,ck,h1,h2,hK _ _ _ h3⟩
 ·rcases h with ⟨b,m,n0,seen,ks,vs,h1,h2,h3,hn,h4,h5⟩ | ⟨b,m,ck,seen,ks,vs,bs,h1,h2,h3,h4,h5⟩
  ·exact .inl ⟨b,m,n0,seen,ks,vs,h1,h2,h3,hn,fun i hi hs=>hK _ _ _ (h4 i hi hs),fun h=>hK _ _ _ (h5 h)⟩
  ·exact .inr ⟨b,m,ck,seen,ks,vs,bs,h1,h2,h3,fun i s hi hs=>hK _ _ _ (h4 i s hi hs),fun h=>hK _ _ _ (h5 h)⟩
 ·rcases h with ⟨b,m,n0,i,seen,ks,vs,h1,h2,h3,h4,h5,h6,h7⟩ | ⟨b,m,ck,i,s,seen,ks,vs,bs,h1,h2,h3,h5,h6,h7⟩
  ·exact .inl ⟨b,m,n0,i,seen,ks,vs,h1,h2,h3,h4,h5,h6,hK _ _ _ h7⟩
  ·exact .inr ⟨b,m,ck,i,s,seen,ks,vs,bs,h1,h2,h3,h5,h6,hK _ _ _ h7⟩
 ·obtain ⟨n,H',h1,h2⟩:=h; exact ⟨n,H',h1,hK _ _ _ h2⟩
 ·obtain ⟨H',h1,h2⟩:=h; exact ⟨H',h1,hK _ _ _ h2⟩
 ·obtain ⟨b,n,off,cs,h1,h2,h3,h4,h5⟩:=h; exact ⟨b,n,off,cs,h1,h2,h3,h4,hK _ _ _ h5⟩
 ·obtain ⟨k,h1,h2⟩:=h; exact ⟨k,h1,fun h=>hK _ _ _ (h2.1 h),fun h=>⟨hK _ _ _ (h2.2 h).1,hK _ _ _ (h2.2 h).2⟩⟩
 ·obtain ⟨bs,h1,h2,h3⟩:=h; exact ⟨bs,h1,fun h=>hK _ _ _ (h2 h),fun h=>hK _ _ _ (h3 h)⟩
 ·obtain ⟨n,bs,h1,h2⟩:=h; exact ⟨n,bs,h1,hK _ _ _ h2⟩
 ·obtain ⟨b,ks,vs,r,h1,h2,h3,h4,h5⟩:=h; exact ⟨b,ks,vs,r,h1,h2,h3,h4,hK _ _ _ h5⟩
 ·obtain ⟨b,ks,vs,i,h1,h2,h3,h4,h5⟩:=h; exact ⟨b,ks,vs,i,h1,h2,h3,h4,hK _ _ _ h5⟩
theorem ik {P:Program} {dm:DM} {i:Ins} {T:Tm} {H:Hp} {nx:Nat} {K K':AV→Hp→Nat→Prop} (h:aX P dm i T H nx K) (hK:∀ r H nx,K r H nx→K' r H nx):aX P dm i T H nx K':=by
 unfold aX at h ⊢
 split at h
 ·exact ⟨h.1,iL (fun a=>hK _ _ _) h.2⟩
 ·exact ⟨h.1,iL (fun a=>hK _ _ _) h.2⟩
 ·split at h
  ·rcases h with h | ⟨h1,⟨b,h2,h3⟩ | ⟨g,fs,h2,h3⟩⟩
   ·left
    refine iL (fun b=>?_) h
    intro h
    cases hd:dm.isText with
    | false=>rw [hd] at h; obtain ⟨r,h1,h3⟩:=h; exact ⟨r,h1,hK _ _ _ h3⟩
    | true=>rw [hd] at h; exact Fn.mono h hK
   ·exact .inr ⟨h1,.inl ⟨b,h2,h3.mono hK⟩⟩
   ·exact .inr ⟨h1,.inr ⟨g,fs,h2,h3.mono hK⟩⟩
  ·exact h
 ·exact ⟨h.1,wP h.2 hK⟩
theorem dX {P:Program} {dm:DM} {K K':SP} (hK:∀ T H nx,K T H nx→K' T H nx):∀ (l:List Op2) {T:Tm} {H:Hp} {nx:Nat},aj P dm l T H nx K→aj P dm l T H nx K'
 | [],_,_,_,h=>hK _ _ _ h
 | o :: l,T,H,nx,h=>by
  have h:aL (g2 T o.g) (aX P dm o.i T H nx fun r H nx=>aj P dm l (aE T o.d r) H nx K) (aj P dm l (aE T o.d (.tup [])) H nx K):=h
  show aL (g2 T o.g) (aX P dm o.i T H nx fun r H nx=>aj P dm l (aE T o.d r) H nx K') (aj P dm l (aE T o.d (.tup [])) H nx K')
  cases hg:g2 T o.g with
  | none=>rw [hg] at h; exact h.elim
  | some b =>
   rw [hg] at h
   cases b with
   | true =>
    have h:aX P dm o.i T H nx fun r H nx=>aj P dm l (aE T o.d r) H nx K:=h
    exact ik h (fun _ _ _ hh=>dX hK l hh)
   | false=>exact dX hK l h
theorem dE {P:Program} {S:Hp} {K K':SP} (hK:∀ T H nx,K T H nx→K' T H nx):∀ (l:List (Op2 × Nat)) {T:Tm} {H:Hp} {nx:Nat},a6 P S l T H nx K→a6 P S l T H nx K'
 | [],_,_,_,h=>hK _ _ _ h
 | (o,0) :: l,T,H,nx,h=>by
  simp only [a6] at h ⊢
  cases hg:g2 T o.g with
  | none=>rw [hg] at h; exact h.elim
  | some b =>
   rw [hg] at h
   cases b with
   | true =>
    have h:az (a8 T S o.i) fun r=>a6 P S l (aE T o.d r) H nx K:=h
    show az (a8 T S o.i) fun r=>a6 P S l (aE T o.d r) H nx K'
    obtain ⟨r,hr,hh⟩:=bU h
    rw [hr]; exact dE hK l hh
   | false=>exact dE hK l h
 | (o,k + 1) :: l,T,H,nx,h=>by
  simp only [a6] at h ⊢
  cases hg:g2 T o.g with
  | none=>rw [hg] at h; exact h.elim
  | some b =>
   rw [hg] at h
   cases b with
   | true =>
    have h:if k=2 then az (ny T o.i) fun r=>a6 P S l (aE T o.d r) H nx K else aX P .text o.i T H nx fun r H' nx'=>(k=0→Sub S H')∧a6 P S l (aE T o.d r) H' nx' K:=h
    show if k=2 then az (ny T o.i) fun r=>a6 P S l (aE T o.d r) H nx K' else aX P .text o.i T H nx fun r H' nx'=>(k=0→Sub S H')∧a6 P S l (aE T o.d r) H' nx' K'
    split
    ·rename_i hk
     rw [if_pos hk] at h
     obtain ⟨r,hr,hh⟩:=bU h
     rw [hr]; exact dE hK l hh
    ·rename_i hk
     rw [if_neg hk] at h
     exact ik h (fun _ _ _ hh=>⟨hh.1,dE hK l hh.2⟩)
   | false=>exact dE hK l h
theorem b6 {P:Program}:∀ (c:C2) {T:Tm} {H:Hp} {nx:Nat} {K K':CP},aD P c T H nx K→(∀ e T H nx,K e T H nx→K' e T H nx)→aD P c T H nx K'
 | .skip,_,_,_,_,_,h,hK=>hK _ _ _ _ h
 | .exit _,_,_,_,_,_,h,hK=>hK _ _ _ _ h
 | .ret,_,_,_,_,_,h,hK=>hK _ _ _ _ h
 | .ops m l,_,_,_,_,_,h,hK=>let ⟨T,H,nx,Hf,hg,h⟩:=h; ⟨T,H,nx,Hf,hg,dX (hK .normal) l h⟩
 | .mix m l C,_,_,_,_,_,h,hK=>h.imp (fun ⟨h9,T,H,nx,Hf,hg,h⟩=>⟨h9,T,H,nx,Hf,hg,dX (hK .normal) l h⟩) (fun ⟨T,H,nx,Hf,hg,h⟩=>⟨T,H,nx,Hf,hg,dX (hK .normal) _ h⟩)
 | .mixS m l C,_,_,_,_,_,h,hK=>h.imp (fun ⟨h9,T,H,nx,Hf,hg,h⟩=>⟨h9,T,H,nx,Hf,hg,dX (hK .normal) l h⟩) (fun ⟨T,H,nx,Hf,S,hg,hs,h⟩=>⟨T,H,nx,Hf,S,hg,hs,dE (hK .normal) _ h⟩)
 | .seq x y,_,_,_,K,K',h,hK=>by
  refine b6 x h (fun e T H nx h=>?_)
  cases e with
  | normal=>exact b6 y h hK
  | exit i=>exact hK _ _ _ _ h
  | ret=>exact hK _ _ _ _ h
 | .cond c x y,T,H,nx,K,K',h,hK=>by
  simp only [aD] at h ⊢
  unfold aR at h ⊢
  split at h
  ·exact ⟨fun hb=>b6 x (h.1 hb) hK,fun hb=>b6 y (h.2 hb) hK⟩
  ·exact h
 | .block id b,_,_,_,_,_,h,hK=>b6 b h (fun e T H nx h=>hK _ _ _ _ h)
 | .loop b,T,H,nx,K,K',h,hK=>by
  obtain ⟨n,h⟩:=h
  refine ⟨n,?_⟩
  induction n generalizing T H nx with
  | zero=>exact h
  | succ n ih =>
   obtain ⟨T',H',nx',Hf,hw,h⟩:=h
   refine ⟨T',H',nx',Hf,hw,b6 b h (fun e T H nx h=>?_)⟩
   cases e with
   | normal=>exact ih _ _ _ h
   | exit i=>exact hK _ _ _ _ h
   | ret=>exact hK _ _ _ _ h
 | .rangeF g ps a b,T,H,nx,K,K',h,hK=>by
  obtain ⟨f,caps,h1,h2⟩:=h
  refine ⟨f,caps,h1,fun c0 cj hy=>Fn.mono (h2 c0 cj hy) ?_⟩
  rintro r H' nx' (⟨k1,k2⟩ | ⟨e,k1,k2,k3⟩)
  ·exact .inl ⟨k1,hK _ _ _ _ k2⟩
  ·exact .inr ⟨e,k1,k2,hK _ _ _ _ k3⟩
theorem vV {P:Program} {b:C2} {T:Tm} {H:Hp} {nx:Nat} {K:CP} {X:Type} (TT:X→Tm) (HH:X→Hp) (NX:X→Nat) (φ:X→Prop) (μ:X→Nat)
    (start:∃ x,φ x∧∃ Hf,Gh T H nx (TT x) (HH x) (NX x) Hf)
    (step:∀ x,φ x→aD P b (TT x) (HH x) (NX x) fun e T H nx=>aH e (∃ y,φ y∧μ y < μ x∧∃ Hf,Gh T H nx (TT y) (HH y) (NX y) Hf) (K e T H nx)):aP (aD P b) T H nx K:=by
 have key:∀ n x T H nx,μ x < n→φ x→(∃ Hf,Gh T H nx (TT x) (HH x) (NX x) Hf)→pZ (aD P b) K n T H nx:=by
  intro n
  induction n with
  | zero=>intro x T H nx h; omega
  | succ n ih =>
   intro x T H nx hn hx ⟨Hf,hg⟩
   refine ⟨_,_,_,Hf,hg,b6 b (step x hx) (fun e T H nx h=>?_)⟩
   cases e with
   | normal =>
    obtain ⟨y,h1,h2,h3⟩:=h
    exact ih y T H nx (by omega) h1 h3
   | exit i=>exact h
   | ret=>exact h
 obtain ⟨x,hx,hg⟩:=start
 exact ⟨_,key _ x T H nx (Nat.lt_succ_self _) hx hg⟩
def tl:List (Nat × AV)→Tm
 | [],_=>.undef
 | (d,v) :: l,t=>if t=d then v else tl l t
def agr (T:Tm):List (Nat × AV)→Prop
 | []=>True
 | (d,v) :: l=>T d=v∧agr T l
theorem nc {T:Tm}:∀ {l:List (Nat × AV)},agr T l→∀ t,tl l t=.undef ∨ tl l t=T t
 | [],_,t=>.inl rfl
 | (d,v) :: l,h,t=>by
  simp only [tl]
  split
  ·rename_i e; subst e; exact .inr h.1.symm
  ·exact nc h.2 t
theorem Gh.weak {T T':Tm} {H:Hp} {nx:Nat} (h:∀ t,T' t=.undef ∨ T' t=T t):Gh T H nx T' H nx bk :=
 ⟨fun _ _ h=>(by cases h),Nat.le_refl _,fun b cs h=>.inl ⟨cs,h,rfl,rfl,fun i x x' h1 h2=>.inl (by rw [h1] at h2; cases h2; rfl)⟩,fun t=>(h t).imp id .inl⟩
theorem jH {P:Program} {b:C2} {T:Tm} {H:Hp} {nx:Nat} {K:CP} {X:Type} (L:X→List (Nat × AV)) (φ:X→Prop) (μ:X→Nat) (x0:X)
    (h0:φ x0) (hT:agr T (L x0))
    (step:∀ x,φ x→aD P b (tl (L x)) H nx fun e T H' nx'=>aH e (∃ y,φ y∧μ y < μ x∧agr T (L y)∧H'=H∧nx'=nx) (K e T H' nx')):aP (aD P b) T H nx K:=by
 refine vV (fun x=>tl (L x)) (fun _=>H) (fun _=>nx) φ μ ⟨x0,h0,_,Gh.weak (nc hT)⟩ (fun x hx=>b6 b (step x hx) (fun e T H' nx' h=>?_))
 cases e with
 | normal =>
  obtain ⟨y,h1,h2,h3,rfl,rfl⟩:=h
  exact ⟨y,h1,h2,_,Gh.weak (nc h3)⟩
 | exit i=>exact h
 | ret=>exact h
@[congr] theorem aloop_congr {b:Tm→Hp→Nat→CP→Prop} {T:Tm} {H:Hp} {nx nx':Nat} {K:CP} (h:nx=nx'):aP b T H nx K=aP b T H nx' K:=by rw [h]
@[congr] theorem awp2_congr {P P':Program} {c:C2} {T:Tm} {H:Hp} {nx:Nat} {K:CP} (h:P=P'):aD P c T H nx K=aD P' c T H nx K:=by rw [h]
@[congr] theorem aops2_congr {P P':Program} {dm:DM} {l:List Op2} {T:Tm} {H:Hp} {nx:Nat} {K:SP} (h:P=P'):aj P dm l T H nx K=aj P' dm l T H nx K:=by rw [h]
@[congr] theorem ains_congr {P P':Program} {dm:DM} {i:Ins} {T:Tm} {H:Hp} {nx:Nat} {K:AV→Hp→Nat→Prop} (h:P=P'):aX P dm i T H nx K=aX P' dm i T H nx K:=by rw [h]
theorem xX {k:IntKind} {a b:Int} {tb tf:Bool}:aZ .lss tb tf (.int k a) (.int k b)=some (.bool (decide (a < b))):=by simp [aZ,cQ]
theorem xV {k:IntKind} {a b:Int} {tb tf:Bool}:aZ .leq tb tf (.int k a) (.int k b)=some (.bool (decide (a ≤ b))):=by simp [aZ,cQ]
theorem xt {k:IntKind} {a b:Int} {tb tf:Bool}:aZ .gtr tb tf (.int k a) (.int k b)=some (.bool (decide (a > b))):=by simp [aZ,cQ]
theorem xZ {k:IntKind} {a b:Int} {tb tf:Bool}:aZ .geq tb tf (.int k a) (.int k b)=some (.bool (decide (a ≥ b))):=by simp [aZ,cQ]
theorem xO {k:IntKind} {a b:Int} {tb tf:Bool}:aZ .eql tb tf (.int k a) (.int k b)=some (.bool (decide (a=b))):=by
 simp only [aZ,cQ]; simp; by_cases h:a=b <;> simp [h]
theorem xj {k:IntKind} {a b:Int} {tb tf:Bool}:aZ .neq tb tf (.int k a) (.int k b)=some (.bool (decide (a ≠ b))):=by
 simp [aZ,cQ,bne]; rfl
theorem xM {k:IntKind} {a b:Int} {tb tf:Bool}:aZ .add tb tf (.int k a) (.int k b)=some (.int k (k.wrap (a + b))):=by simp [aZ,cQ]
theorem xU {k:IntKind} {a b:Int} {tb tf:Bool}:aZ .sub tb tf (.int k a) (.int k b)=some (.int k (k.wrap (a - b))):=by simp [aZ,cQ]
theorem xy {k:IntKind} {a b:Int} {tb tf:Bool}:aZ .mul tb tf (.int k a) (.int k b)=some (.int k (k.wrap (a * b))):=by simp [aZ,cQ]
theorem pP {a:Int} (h1:-9223372036854775808 ≤ a) (h2:a ≤ 9223372036854775807):IntKind.wrap .i64 a=a:=by
 rw [IntKind.wrap_i64]; omega
end Go.Abs
namespace Go.Abs
open Go.RowKit
variable {P:Program} {T:Tm} {H:Hp} {nx:Nat}
theorem yY {K:CP} (h:K .normal T H nx):aD P .skip T H nx K:=h
theorem y7 {K:CP} {i:Nat} (h:K (.exit i) T H nx):aD P (.exit i) T H nx K:=h
theorem Az {K:CP} (h:K .ret T H nx):aD P .ret T H nx K:=h
theorem yU {K:CP} {l:List Op2} (h:aj P .text l T H nx fun T H nx=>K .normal T H nx):aD P (.ops 0 l) T H nx K:=⟨T,H,nx,_,Gh.refl _ _ _,h⟩
theorem mH {K:CP} {l:List Op2} {C:List Nat} (h:aj P .draw l T H nx fun T H nx=>K .normal T H nx):aD P (.mix 1 l C) T H nx K:=.inl ⟨by decide,T,H,nx,_,Gh.refl _ _ _,h⟩
theorem mb {K:CP} {l:List Op2} {C:List Nat} (h:aj P (.fresh nx) l T H nx fun T H nx=>K .normal T H nx):aD P (.mix 2 l C) T H nx K:=.inl ⟨by decide,T,H,nx,_,Gh.refl _ _ _,h⟩
theorem xz {K:CP} {l:List Op2} {C:List (Nat × Nat)} (h:aj P .draw l T H nx fun T H nx=>K .normal T H nx):aD P (.mixS 1 l C) T H nx K:=.inl ⟨by decide,T,H,nx,_,Gh.refl _ _ _,h⟩
theorem xg {K:CP} {l:List Op2} {C:List (Nat × Nat)} (h:aj P (.fresh nx) l T H nx fun T H nx=>K .normal T H nx):aD P (.mixS 2 l C) T H nx K:=.inl ⟨by decide,T,H,nx,_,Gh.refl _ _ _,h⟩
theorem pE (S:Hp) {K:CP} {m:Nat} {l:List Op2} {alt:List (Op2 × Nat)} {C:List (Nat × Nat)} (ha:(C.map fun k=>(l.getD k.1 ⟨none,none,.dead⟩,k.2))=alt) (hs:Sub S H) (h:a6 P S alt T H nx fun T H nx=>K .normal T H nx):aD P (.mixS m l C) T H nx K:=by
 subst ha
 exact .inr ⟨T,H,nx,_,S,Gh.refl _ _ _,hs,h⟩
theorem yi {S:Hp} {K:SP} (h:K T H nx):a6 P S [] T H nx K:=h
theorem Aj {S:Hp} {K:SP} {l:List (Op2 × Nat)} {d:Option Nat} {i:Ins} {r:AV} (h:a8 T S i=some r) (k:a6 P S l (aE T d r) H nx K):a6 P S ((⟨d,none,i⟩,0) :: l) T H nx K:=by
 show az (a8 T S i) fun r=>a6 P S l (aE T d r) H nx K
 rw [h]; exact k
theorem zL {S:Hp} {K:SP} {l:List (Op2 × Nat)} {d:Option Nat} {len:Nat} {z cs:List AV} {parts:List (Nat × Nat × Opd)} {pv:List (Nat × Nat × AV)} (hp:parts.map (fun p=>(p.1,p.2.1,ov T p.2.2))=pv) (hc:cw (aY (.agg z) len) pv=some cs) (hl:len ≠ 0) (hn:cs.length=len) (ho:cs.all AV.one=true)
    (k:a6 P S l (aE T d (.sl 1 cs)) H nx K):a6 P S ((⟨d,none,.bldS 1 len z parts⟩,3) :: l) T H nx K:=by
 show az (ny T (.bldS 1 len z parts)) _
 have:ny T (.bldS 1 len z parts)=some (.sl 1 cs):=by
  simp only [ny,eY,hl,if_false,hp,hc,l7,aq,if_true,hn]
  rw [if_pos ⟨trivial,hl,ho⟩]
 rw [this]; exact k
theorem fw {S:Hp} {K:SP} {l:List (Op2 × Nat)} {d:Option Nat} {i:Ins} (k:aj P .text [⟨d,none,i⟩] T H nx fun T H nx=>Sub S H∧a6 P S l T H nx K):a6 P S ((⟨d,none,i⟩,1) :: l) T H nx K:=by
 have k:aX P .text i T H nx fun r H nx=>Sub S H∧a6 P S l (aE T d r) H nx K:=k
 show aX P .text i T H nx fun r H' nx'=>(0=0→Sub S H')∧a6 P S l (aE T d r) H' nx' K
 exact ik k (fun _ _ _ h=>⟨fun _=>h.1,h.2⟩)
theorem gr {S:Hp} {K:SP} {l:List (Op2 × Nat)} {d:Option Nat} {i:Ins} (k:aj P .text [⟨d,none,i⟩] T H nx fun T H nx=>a6 P S l T H nx K):a6 P S ((⟨d,none,i⟩,2) :: l) T H nx K:=by
 have k:aX P .text i T H nx fun r H nx=>a6 P S l (aE T d r) H nx K:=k
 show aX P .text i T H nx fun r H' nx'=>(1=0→Sub S H')∧a6 P S l (aE T d r) H' nx' K
 exact ik k (fun _ _ _ h=>⟨fun hh=>absurd hh (by decide),h⟩)
theorem zo {K:CP} {l:List Op2} (h:aj P .draw l T H nx fun T H nx=>K .normal T H nx):aD P (.ops 1 l) T H nx K:=⟨T,H,nx,_,Gh.refl _ _ _,h⟩
theorem yO {K:CP} {l:List Op2} (h:aj P (.fresh nx) l T H nx fun T H nx=>K .normal T H nx):aD P (.ops 2 l) T H nx K:=⟨T,H,nx,_,Gh.refl _ _ _,h⟩
theorem en {K:CP} {x y:C2} (h:aD P x T H nx fun e T H nx=>aH e (aD P y T H nx K) (K e T H nx)):aD P (.seq x y) T H nx K:=h
theorem f8 {K:CP} {i:Nat} {b:C2} (h:aD P b T H nx fun e T H nx=>K (iO i e) T H nx):aD P (.block i b) T H nx K:=h
theorem rW {K:CP} {c:Opd} {x y:C2} {b:Bool} (hc:ov T c=.bool b) (h1:b=true→aD P x T H nx K) (h2:b=false→aD P y T H nx K):aD P (.cond c x y) T H nx K:=by
 simp only [aD,hc]; exact ⟨h1,h2⟩
theorem tw {K:CP} {c:Opd} {x y:C2} (hc:ov T c=.bool true) (h1:aD P x T H nx K):aD P (.cond c x y) T H nx K :=
 rW hc (fun _=>h1) (fun h=>by cases h)
theorem tO {K:CP} {c:Opd} {x y:C2} (hc:ov T c=.bool false) (h2:aD P y T H nx K):aD P (.cond c x y) T H nx K :=
 rW hc (fun h=>by cases h) (fun _=>h2)
theorem yZ {K:CP} {b:C2} (h:aP (aD P b) T H nx K):aD P (.loop b) T H nx K:=h
theorem a_n {A B:Prop} (h:A):aH .normal A B:=h
theorem a_x {A B:Prop} {i:Nat} (h:B):aH (.exit i) A B:=h
theorem a_r {A B:Prop} (h:B):aH .ret A B:=h
theorem lg {dm:DM} {K:SP} (h:K T H nx):aj P dm [] T H nx K:=h
theorem iG {dm:DM} {K:SP} {l:List Op2} {d:Option Nat} {i:Ins} {r:AV} (hi:ic i=.val) (hd:dm2 dm T i=true) (h:a8 T H i=some r) (k:aj P dm l (aE T d r) H nx K):aj P dm (⟨d,none,i⟩ :: l) T H nx K:=by
 show aX P dm i T H nx fun r H nx=>aj P dm l (aE T d r) H nx K
 unfold aX; rw [hi]; exact ⟨hd,by rw [h]; exact k⟩
theorem iJ {dm:DM} {K:SP} {l:List Op2} {d:Option Nat} {i:Ins} {r:AV} {H':Hp} {nx':Nat} (hi:ic i=.eff) (hd:dm2 dm T i=true) (h:eY T H nx i=some (r,H',nx')) (k:aj P dm l (aE T d r) H' nx' K):aj P dm (⟨d,none,i⟩ :: l) T H nx K:=by
 show aX P dm i T H nx fun r H nx=>aj P dm l (aE T d r) H nx K
 unfold aX; rw [hi]; exact ⟨hd,by rw [h]; exact k⟩
theorem sw {K:SP} {l:List Op2} {d:Option Nat} {f:Opd} {args:List Opd} {g:FuncId} {caps:List AV} (hf:ov T f=.func g caps) (k:Fn P g (args.map (ov T) ++ caps) H nx fun r H nx=>aj P .text l (aE T d r) H nx K) :
    aj P .text (⟨d,none,.call f args⟩ :: l) T H nx K:=by
 left
 show az (jt (ov T f)) _
 rw [hf]; exact k
theorem tM {dm:DM} (hdm:dm.isText=false) {K:SP} {l:List Op2} {d:Option Nat} {f:Opd} {args:List Opd} {g:FuncId} {caps:List AV} (hf:ov T f=.func g caps) (k:aO P g (args.map (ov T) ++ caps) H fun r=>aj P dm l (aE T d r) H nx K) :
    aj P dm (⟨d,none,.call f args⟩ :: l) T H nx K:=by
 left
 show az (jt (ov T f)) _
 rw [hf]
 show (match dm.isText with | false=>_ | true=>_)
 rw [hdm]
 exact k
theorem pR {K:SP} {l:List Op2} {d:Option Nat} {f:Opd} {args:List Opd} {b:Nat} {xs:List AV} (hf:ov T f=.yld b) (ha:args.map (ov T)=xs) (k:Yl P b xs H nx fun r H nx=>aj P .text l (aE T d r) H nx K) :
    aj P .text (⟨d,none,.call f args⟩ :: l) T H nx K:=by
 right
 exact ⟨rfl,.inl ⟨b,hf,by rw [ha]; exact k⟩⟩
theorem iK {K:SP} {l:List Op2} {d:Option Nat} {i:Ins} (hi:ic i=.sp) (k:isp i T H nx fun r H nx=>aj P .text l (aE T d r) H nx K):aj P .text (⟨d,none,i⟩ :: l) T H nx K:=by
 show aX P .text i T H nx fun r H nx=>aj P .text l (aE T d r) H nx K
 unfold aX; rw [hi]; exact ⟨rfl,k⟩
theorem yn {K:SP} {l:List Op2} {d:Option Nat} (k:aj P .text l (aE T d (.mp nx)) (aq H nx [.omap [] []]) (nx + 1) K):aj P .text (⟨d,none,.mkm none⟩ :: l) T H nx K:=iK rfl ⟨.inl rfl,.inl k⟩
theorem yH {K:SP} {l:List Op2} {d:Option Nat} {kk:MK} {m key x:Opd} {b:Nat} {ks vs:List AV} {kv xv:AV} {r:Option Nat} (hm:ov T m=.mp b) (hb:H b=some [.omap ks vs]) (hk:ov T key=kv) (hx:ov T x=xv) (hfit:eJ kk kv=true) (hr:bG kk kv ks=some r)
    (k:aj P .text l (aE T d (.tup [])) (aq H b [.omap (bx kv r ks) (dI xv r vs)]) nx K):aj P .text (⟨d,none,.mput kk m key x⟩ :: l) T H nx K:=by
 subst hk hx
 exact iK rfl (.inl ⟨b,ks,vs,r,hm,hb,hfit,hr,k⟩)
theorem sc {K:SP} {l:List Op2} {d:Option Nat} {kk:MK} {z:AV} {ok:Bool} {m key:Opd} {b:Nat} {ks vs:List AV} {kv:AV} {r:Option Nat} (hm:ov T m=.mp b) (hb:H b=some [.omap ks vs]) (hk:ov T key=kv) (hfit:eJ kk kv=true) (hr:bG kk kv ks=some r)
    (k:aj P .text l (aE T d (mget z ok r vs)) H nx K):aj P .text (⟨d,none,.mget kk z ok m key⟩ :: l) T H nx K:=by
 subst hk
 exact iK rfl (.inl ⟨b,ks,vs,r,hm,hb,hfit,hr,k⟩)
theorem wF {K:SP} {l:List Op2} {d:Option Nat} {kk:MK} {z:AV} {m key:Opd} {b:Nat} {ks vs:List AV} {kv:AV} {r:Option Nat} (hm:ov T m=.mp b) (hb:H b=some [.omap ks vs]) (hk:ov T key=kv) (hfit:eJ kk kv=true) (hr:bG kk kv ks=some r)
    (k:aj P .text l (aE T d (.tup [rQ z r vs,.int .i64 (qz r ks)])) (aq H b [.omap (bx kv r ks) (gz z r vs)]) nx K):aj P .text (⟨d,none,.mplc kk z m key⟩ :: l) T H nx K:=by
 subst hk
 exact iK rfl ⟨b,ks,vs,r,hm,hb,hfit,hr,k⟩
theorem vP {K:SP} {l:List Op2} {d:Option Nat} {m s x:Opd} {b i:Nat} {ks vs:List AV} {xv:AV} (hm:ov T m=.mp b) (hb:H b=some [.omap ks vs]) (hi:ov T s=.int .i64 (i:Int)) (hlt:i < ks.length) (hx:ov T x=xv)
    (k:aj P .text l (aE T d (.tup [])) (aq H b [.omap ks (vs.set i xv)]) nx K):aj P .text (⟨d,none,.mpst m s x⟩ :: l) T H nx K:=by
 subst hx
 exact iK rfl ⟨b,ks,vs,i,hm,hb,hi,hlt,k⟩
theorem yJ {K:SP} {l:List Op2} {d:Option Nat} (k:aj P .text l (aE T d (.mp nx)) (aq H nx [.bmap [] [] [] 0]) (nx + 1) K):aj P .text (⟨d,none,.mkm none⟩ :: l) T H nx K:=iK rfl ⟨.inl rfl,.inr k⟩
theorem x9 {K:SP} {l:List Op2} {d:Option Nat} {kk:MK} {m key x:Opd} {b:Nat} {ks vs:List AV} {bs:List Nat} {ck:Nat} {kv xv:AV} {r:Option Nat} (hm:ov T m=.mp b) (hb:H b=some [.bmap ks vs bs ck]) (hk:ov T key=kv) (hx:ov T x=xv) (hfit:eJ kk kv=true) (hr:bG kk kv ks=some r)
    (k:aj P .text l (aE T d (.tup [])) (aq H b [.bmap (bx kv r ks) (dI xv r vs) (kO ck r bs) (od ck r)]) nx K):aj P .text (⟨d,none,.mput kk m key x⟩ :: l) T H nx K:=by
 subst hk hx
 exact iK rfl (.inr ⟨b,ks,vs,bs,ck,r,hm,hb,hfit,hr,k⟩)
theorem y4 {K:SP} {l:List Op2} {d:Option Nat} {kk:MK} {m key:Opd} {b:Nat} {ks vs:List AV} {bs:List Nat} {ck:Nat} {kv:AV} {r:Option Nat} (hm:ov T m=.mp b) (hb:H b=some [.bmap ks vs bs ck]) (hk:ov T key=kv) (hfit:eJ kk kv=true) (hr:bG kk kv ks=some r)
    (k:aj P .text l (aE T d (.tup [])) (aq H b [.bmap (gj r ks) (gj r vs) (gj r bs) ck]) nx K):aj P .text (⟨d,none,.mdel kk m key⟩ :: l) T H nx K:=by
 subst hk
 exact iK rfl ⟨b,ks,vs,bs,ck,r,hm,hb,hfit,hr,k⟩
theorem tc {K:SP} {l:List Op2} {d:Option Nat} {kk:MK} {z:AV} {ok:Bool} {m key:Opd} {b:Nat} {ks vs:List AV} {bs:List Nat} {ck:Nat} {kv:AV} {r:Option Nat} (hm:ov T m=.mp b) (hb:H b=some [.bmap ks vs bs ck]) (hk:ov T key=kv) (hfit:eJ kk kv=true) (hr:bG kk kv ks=some r)
    (k:aj P .text l (aE T d (mget z ok r vs)) H nx K):aj P .text (⟨d,none,.mget kk z ok m key⟩ :: l) T H nx K:=by
 subst hk
 exact iK rfl (.inr ⟨b,ks,vs,bs,ck,r,hm,hb,hfit,hr,k⟩)
theorem xK {K:SP} {l:List Op2} {d:Option Nat} {m:Opd} {b:Nat} {ks vs:List AV} {bs:List Nat} {ck:Nat} (hm:ov T m=.mp b) (hb:H b=some [.bmap ks vs bs ck]) (k:aj P .text l (aE T d (.itr nx)) (aq H nx [.biter b ck []]) (nx + 1) K):aj P .text (⟨d,none,.mrng m⟩ :: l) T H nx K:=iK rfl (.inr ⟨b,ks,vs,bs,ck,hm,hb,k⟩)
theorem xE {K:SP} {l:List Op2} {d:Option Nat} {it:Opd} {b m ck:Nat} {seen bs:List Nat} {ks vs:List AV} (hi:ov T it=.itr b) (hb:H b=some [.biter m ck seen]) (hm:H m=some [.bmap ks vs bs ck])
    (h1:∀ (i s:Nat),bs[i]?=some s→s ∉ seen→aj P .text l (aE T d (.tup [.bool true,ks.getD i .undef,vs.getD i .undef])) (aq H b [.biter m ck (seen ++ [s])]) nx K)
    (h2:(∀ s ∈ bs,s ∈ seen)→aj P .text l (aE T d (.tup [.bool false])) H nx K):aj P .text (⟨d,none,.mnxt it⟩ :: l) T H nx K:=iK rfl (.inr ⟨b,m,ck,seen,ks,vs,bs,hi,hb,hm,h1,h2⟩)
theorem xi {K:SP} {l:List Op2} {d:Option Nat} {it:Opd} {b m ck i s:Nat} {seen bs:List Nat} {ks vs:List AV} (hi:ov T it=.itr b) (hb:H b=some [.biter m ck seen]) (hm:H m=some [.bmap ks vs bs ck]) (hl:seen.getLast?=some s) (hbi:bs[i]?=some s)
    (k:aj P .text l (aE T d (.tup [ks.getD i .undef,vs.getD i .undef])) H nx K):aj P .text (⟨d,none,.ment it⟩ :: l) T H nx K:=iK rfl (.inr ⟨b,m,ck,i,s,seen,ks,vs,bs,hi,hb,hm,hl,hbi,k⟩)
theorem yu {K:SP} {l:List Op2} {d:Option Nat} {sz n:Nat} {x y:Opd} {H':Hp} (h:kV sz (ov T x) (ov T y) H=some (n,H')) (k:aj P .text l (aE T d (.int .i64 n)) H' nx K):aj P .text (⟨d,none,.cpy sz x y⟩ :: l) T H nx K:=iK rfl ⟨n,H',h,k⟩
theorem yB {K:SP} {l:List Op2} {d:Option Nat} {len sz:Nat} {x:Opd} {b n off:Nat} {cs:List AV} (hx:ov T x=.ptr b n off) (hb:H b=some cs) (hn:cs.length=n) (hf:off + len * sz=n) (k:aj P .text l (aE T d (.msl b n sz off len)) H nx K):aj P .text (⟨d,none,.slp len sz x⟩ :: l) T H nx K:=iK rfl ⟨b,n,off,cs,hx,hb,hn,hf,k⟩
theorem vM {K:SP} {l:List Op2} {d:Option Nat} {neg:Bool} {x:Opd} {k:Nat} (hx:dP (ov T x)=some k) (h1:0 < k→aj P .text l (aE T d (.bool neg)) H nx K) (h2:k=0→aj P .text l (aE T d (.bool true)) H nx K) (h3:k=0→aj P .text l (aE T d (.bool false)) H nx K):aj P .text (⟨d,none,.snil neg x⟩ :: l) T H nx K:=iK rfl ⟨k,hx,h1,fun h=>⟨h2 h,h3 h⟩⟩
theorem w5 {K:CP} {g:Opd} {ps:List Nat} {a b:C2} {f:FuncId} {caps:List AV} (hg:ov T g=.func f caps)
    (h:∀ (c0:AV) (cj:AEx→AV),(∀ (args:List AV) (H':Hp) (nx':Nat) (K':AV→Hp→Nat→Prop),H' nx=some [c0]→args.length=ps.length →
        aD P a (fA T ps args) H' nx' (fun e T2 H2 nx2=>aH e (H2 nx=some [c0]∧aD P b T2 (bK H2 nx) nx2 fun e T3 H3 nx3=>aH e (K' (.bool true) (aq H3 nx [c0]) nx3) (K' (.bool false) (aq H3 nx [cj e]) nx3)) False) →
        Yl P nx args H' nx' K') →
     Fn P f (.yld nx :: caps) (aq H nx [c0]) (nx + 1) fun _ H' nx'=>(H' nx=some [c0]∧K .normal T (bK H' nx) nx') ∨ ∃ e,e ≠ .normal∧H' nx=some [cj e]∧K e T (bK H' nx) nx'):aD P (.rangeF g ps a b) T H nx K:=⟨f,caps,hg,h⟩
theorem zd {dm:DM} {K:SP} {l:List Op2} {d:Option Nat} {i:Ins} {t:Nat} {w:Bool} (h:T t=.bool w) (k:aj P dm (⟨d,none,i⟩ :: l) T H nx K):aj P dm (⟨d,some (t,w),i⟩ :: l) T H nx K:=by
 show aL (g2 T (some (t,w))) _ _
 have:g2 T (some (t,w))=some true:=by simp [g2,h]
 rw [this]; exact k
theorem zy {dm:DM} {K:SP} {l:List Op2} {d:Option Nat} {i:Ins} {t:Nat} {w:Bool} (h:T t=.bool (!w) ∨ T t=.tup []) (k:aj P dm l (aE T d (.tup [])) H nx K):aj P dm (⟨d,some (t,w),i⟩ :: l) T H nx K:=by
 show aL (g2 T (some (t,w))) _ _
 have:g2 T (some (t,w))=some false:=by
  rcases h with h | h
  ·cases w <;> simp [g2,h]
  ·simp [g2,h]
 rw [this]; exact k
theorem ak {e:AEx} {A:Prop} (he:e.ends=true) (h:A):aK e.ends A:=⟨he,h⟩
theorem r_1 {K:AV→Prop} {a:RV} {x:AV} (ha:rv T H a=some x) (h:K x):bd T H K [a]:=by
 show az (rv T H a) K
 rw [ha]; exact h
theorem r_2 {K:AV→Prop} {a b:RV} {x y:AV} (ha:rv T H a=some x) (hb:rv T H b=some y) (h:K (.tup [x,y])):bd T H K [a,b]:=by
 show az (rv T H a) _
 rw [ha]
 show az (rv T H b) _
 rw [hb]; exact h
theorem rK {T:Tm} {t:Nat} {v:AV} (h:T t=v):upd T t v=T:=by
 funext x; simp only [upd]; split
 ·rename_i e; rw [e,h]
 ·rfl
theorem Ay {dm:DM} {K:SP} {l:List Op2} {d:Option Nat} {i:Ins} {t:Nat} {w b:Bool} (h:T t=.bool b) (k1:b=w→aj P dm (⟨d,none,i⟩ :: l) (upd T t (.bool w)) H nx K)
    (k2:b=!w→aj P dm l (aE (upd T t (.bool (!w))) d (.tup [])) H nx K):aj P dm (⟨d,some (t,w),i⟩ :: l) T H nx K:=by
 by_cases hb:b=w
 ·subst hb
  have:=k1 rfl
  rw [rK h] at this
  exact zd h this
 ·have hb':b=!w:=by cases b <;> cases w <;> simp_all
  subst hb'
  have:=k2 rfl
  rw [rK h] at this
  exact zy (.inl h) this
theorem rg {α:Type} {f:α→AV} {l:List α} {k:Nat} {u:AV} (d:α) (h:k < l.length):(l.map f).getD k u=f (l.getD k d):=by
 simp [List.getD,h]
theorem wi {c:Prop} [Decidable c] {x:Option AV} {r:AV} (hc:c) (h:x=some r):(if c then x else none)=some r:=by rw [if_pos hc]; exact h
theorem vb {k:IntKind} {n:Int}:AV.cells (.int k n)=[.int k n]:=rfl
end Go.Abs
namespace Go.Abs
open Go.RowKit
def Dat (x:AV):Prop:=∀ H,Snap H x x
theorem Dat.int {k:IntKind} {n:Int}:Dat (.int k n):=fun _=>.int _ _
theorem Dat.bool {b:Bool}:Dat (.bool b):=fun _=>.bool _
theorem Dat.str {s:ByteArray}:Dat (.str s):=fun _=>.str _
theorem Dat.esl:Dat .esl:=fun _=>.esl
theorem Dat.nilp:Dat .nilp:=fun _=>.nilp
theorem Dat.nilf:Dat .nilf:=fun _=>.nilf
theorem Dat.sl {sz:Nat} {l:List AV} (h:∀ x ∈ l,∀ c ∈ x.cells,Dat c):Dat (.sl sz l):=fun H =>
 .sl sz l l rfl (fun i x y hx hy=>by rw [hx] at hy; cases hy; rfl) (fun i j x y a b hx hy ha hb=>by
  rw [hx] at hy; cases hy; rw [ha] at hb; cases hb
  exact h x (List.mem_of_getElem? hx) a (List.mem_of_getElem? ha) H)
theorem Dat.agg {l:List AV} (h:∀ x ∈ l,Dat x):Dat (.agg l):=fun H =>
 .agg l l rfl (fun i a c ha hc=>by rw [ha] at hc; cases hc; exact h a (List.mem_of_getElem? ha) H)
theorem Dat.tup {l:List AV} (h:∀ x ∈ l,Dat x):Dat (.tup l):=fun H =>
 .tup l l rfl (fun i a c ha hc=>by rw [ha] at hc; cases hc; exact h a (List.mem_of_getElem? ha) H)
theorem Dat.func {f:FuncId} {l:List AV} (h:∀ x ∈ l,Dat x):Dat (.func f l):=fun H =>
 .func f l l rfl (fun i a c ha hc=>by rw [ha] at hc; cases hc; exact h a (List.mem_of_getElem? ha) H)
def bg (l:List Int):AV:=.sl 1 (l.map (AV.int .i64))
def bi (l:List (List Int)):AV:=.sl 1 (l.map bg)
theorem dr (l:List Int):Dat (bg l):=Dat.sl (fun x hx c hc=>by
 obtain ⟨n,_,rfl⟩:=List.mem_map.1 hx
 simp only [AV.cells,List.mem_singleton] at hc; subst hc; exact .int)
theorem n9 (l:List (List Int)):Dat (bi l):=Dat.sl (fun x hx c hc=>by
 obtain ⟨n,_,rfl⟩:=List.mem_map.1 hx
 simp only [bg,AV.cells,List.mem_singleton] at hc; subst hc; exact dr n)
theorem sy {l:List Int}:(bg l).cells=[bg l]:=rfl
theorem aa {H:Hp}:aF H [] []:=aF.nil
theorem ai {H:Hp} {x:AV} {xs ys:List AV} (h:Dat x) (hs:aF H xs ys):aF H (x :: xs) (x :: ys):=aF.cons (h H) hs
class DatI (x:AV):Prop where
 d:Dat x
instance datI_int {k:IntKind} {n:Int}:DatI (.int k n):=⟨.int⟩
instance datI_bool {b:Bool}:DatI (.bool b):=⟨.bool⟩
instance datI_str {s:ByteArray}:DatI (.str s):=⟨.str⟩
instance datI_esl:DatI .esl:=⟨.esl⟩
instance datI_nilf:DatI .nilf:=⟨.nilf⟩
instance datI_encV {l:List Int}:DatI (bg l):=⟨dr l⟩
instance datI_encVV {l:List (List Int)}:DatI (bi l):=⟨n9 l⟩
theorem an {H:Hp} {x:AV} {xs ys:List AV} [h:DatI x] (hs:aF H xs ys):aF H (x :: xs) (x :: ys):=ai h.d hs
variable {P:Program} {T:Tm} {H:Hp} {nx:Nat}
theorem bP {dm:DM} {K:SP} {l:List Op2} {d:Option Nat} {f:Opd} {args:List Opd} {g:FuncId} {caps xs ys:List AV} {r:AV} (hf:ov T f=.func g caps) (ha:args.map (ov T) ++ caps=xs)
    (hp:Pure P g ys r) (hs:av H xs ys r) (k:aj P dm l (aE T d r) H nx K):aj P dm (⟨d,none,.call f args⟩ :: l) T H nx K:=by
 subst ha
 cases hd:dm.isText with
 | false=>exact tM hd hf (aO.of_pure hp hs k)
 | true =>
  cases dm with
  | text=>exact sw hf (Fn.of_pure hp hs k)
  | draw=>cases hd
  | fresh m=>cases hd
theorem bX {dm:DM} {K:SP} {l:List Op2} {d:Option Nat} {f:Opd} {args:List Opd} {g:FuncId} {caps xs ys:List AV} {r:AV} (hf:ov T f=.func g caps) (ha:args.map (ov T) ++ caps=xs)
    (hp:dt P g ys r) (hs:aF H xs ys) (k:aj P dm l (aE T d r) H nx K):aj P dm (⟨d,none,.call f args⟩ :: l) T H nx K:=by
 subst ha
 have hc:=hp.callOk hs
 cases hd:dm.isText with
 | false=>exact tM hd hf (aO.of_callOk hc k)
 | true =>
  cases dm with
  | text=>exact sw hf (Fn.of_callOk hc k)
  | draw=>cases hd
  | fresh m=>cases hd
theorem tN {dm:DM} {K:SP} {l:List Op2} {d:Option Nat} {f:Opd} {args:List Opd} {g:FuncId} {caps xs:List AV} {r:AV} (hf:ov T f=.func g caps) (ha:args.map (ov T) ++ caps=xs)
    (hp:Pure P g xs r) (hs:av H xs xs r) (k:aj P dm l (aE T d r) H nx K):aj P dm (⟨d,none,.call f args⟩ :: l) T H nx K:=bP hf ha hp hs k
theorem ag {xs ys:List AV} {r:AV} {H:Hp} (h:aF bk xs ys):av H xs ys r:=.inl h
theorem ac {xs ys:List AV} {r:AV} {H:Hp} (h:aF H xs ys) (hr:r.sca=true):av H xs ys r:=.inr ⟨h,hr⟩
theorem mc {α:Type} [Inhabited α] {f:α→AV} {l:List α} {sz:Nat} {k:IntKind} {n:Int}:cR sz (.sl sz (l.map f)) (.int k n)=if 0 ≤ n∧n < l.length then some (.iptr (f (l.getD n.toNat default)).cells 0) else none:=by
 simp only [cR,true_and,List.length_map]
 split
 ·rename_i h
  rw [rg default (by omega)]
 ·rfl
theorem kw {α:Type} {f:α→AV} {l:List α} {sz:Nat}:bE (.sl sz (l.map f))=some (.int .i64 l.length):=by simp [bE]
theorem fy {l:List Int} {k:IntKind} {n:Int}:cR 1 (bg l) (.int k n)=if 0 ≤ n∧n < l.length then some (.iptr [.int .i64 (l.getD n.toNat default)] 0) else none:=mc
theorem gd {l:List (List Int)} {k:IntKind} {n:Int}:cR 1 (bi l) (.int k n)=if 0 ≤ n∧n < l.length then some (.iptr [bg (l.getD n.toNat default)] 0) else none:=mc
theorem nG {l:List Int}:bE (bg l)=some (.int .i64 l.length):=kw
theorem kX {l:List (List Int)}:bE (bi l)=some (.int .i64 l.length):=kw
end Go.Abs
namespace Go.Abs
theorem SA:(∀ (T:Tm) (n:Nat),ov T (.t n)=T n)∧(∀ (T:Tm) (v:AV),ov T (.c v)=v)∧(∀ (T:Tm) (d t:Nat) (v:AV),upd T d v t=if t=d then v else T t)∧(∀ (T:Tm) (d:Nat) (v:AV),aE T (some d) v=upd T d v) ∧
    (∀ (T:Tm) (v:AV),aE T none v=T)∧(∀ (x:AV) (l:List AV),T0 (x :: l) 0=x)∧(∀ (x:AV) (l:List AV) (n:Nat),T0 (x :: l) (n + 1)=T0 l n)∧(∀ n:Nat,T0 [] n=.undef) ∧
    (∀ (d t:Nat) (v:AV) (l:List (Nat × AV)),tl ((d,v) :: l) t=if t=d then v else tl l t)∧(∀ t:Nat,tl [] t=.undef) ∧
    (∀ (T:Tm) (t:Nat) (ts:List Nat) (x:AV) (xs:List AV),fA T (t :: ts) (x :: xs)=fA (upd T t x) ts xs)∧(∀ (T:Tm) (xs:List AV),fA T [] xs=T) :=
 ⟨fun _ _=>rfl,fun _ _=>rfl,fun _ _ _ _=>rfl,fun _ _ _=>rfl,fun _ _=>rfl,fun _ _=>rfl,fun _ _ _=>rfl,fun _=>rfl,fun _ _ _ _=>rfl,fun _=>rfl,fun _ _ _ _ _=>rfl,fun _ xs=>by cases xs <;> rfl⟩
theorem SV:(∀ (T:Tm) (H:Hp) (x:Opd),a8 T H (.mov x)=some (ov T x)) ∧
    (∀ (T:Tm) (H:Hp) (c a b:Opd),a8 T H (.pick c a b)=match ov T c with | .bool t=>some (if t=true then ov T a else ov T b) | _=>none) ∧
    (∀ (T:Tm) (H:Hp) (a:Opd),a8 T H (.ld1 a)=rd1 H (ov T a))∧(∀ (T:Tm) (H:Hp) (k:Nat) (a:Opd),a8 T H (.ldn k a)=(rd H k (ov T a)).map .agg) ∧
    (∀ (T:Tm) (H:Hp) (op:BinOp) (tb tf:Bool) (x y:Opd),a8 T H (.bin op tb tf x y)=aZ op tb tf (ov T x) (ov T y)) ∧
    (∀ (T:Tm) (H:Hp) (op:UnOp) (x:Opd),a8 T H (.un op x)=aun op (ov T x)) ∧
    (∀ (T:Tm) (H:Hp) (f:FuncId) (caps:List Opd),a8 T H (.mkfn f caps)=some (.func f (caps.map (ov T)))) ∧
    (∀ (T:Tm) (H:Hp) (k:Nat) (p:Opd),a8 T H (.fa k p)=gm k (ov T p)) ∧
    (∀ (T:Tm) (H:Hp) (sz:Nat) (x i:Opd),a8 T H (.ixaS sz x i)=cR sz (ov T x) (ov T i)) ∧
    (∀ (T:Tm) (H:Hp) (x:Opd) (i:Nat),a8 T H (.ext x i)=ec (ov T x) i) ∧
    (∀ (T:Tm) (H:Hp) (x:Opd),a8 T H (.lenS x)=bE (ov T x)) ∧
    (∀ (T:Tm) (H:Hp) (z:List AV) (parts:List (Nat × Nat × Opd)),a8 T H (.bld z parts)=(cw z (parts.map fun p=>(p.1,p.2.1,ov T p.2.2))).map .agg) ∧
    (∀ (T:Tm) (H:Hp) (x:Opd) (l:List Opd),a8 T H (.mx x l)=d5 jF (ov T x) (l.map (ov T))) ∧
    (∀ (T:Tm) (H:Hp) (x:Opd) (l:List Opd),a8 T H (.mn x l)=d5 jB (ov T x) (l.map (ov T))) ∧
    (∀ (T:Tm) (H:Hp) (k:IntKind) (x:Opd),a8 T H (.conv k x)=jw (ov T x) fun n=>some (.int k (k.wrap n))) ∧
    (∀ (T:Tm) (H:Hp) (sz:Nat) (x:Opd) (lo hi mx:Option Opd),a8 T H (.sls sz x lo hi mx)=ip sz (ov T x) (lo.map (ov T)) (hi.map (ov T)) (mx.map (ov T))) ∧
    (∀ (T:Tm) (H:Hp) (off:Nat) (x:Opd),a8 T H (.part1 off x)=cf (ov T x) fun cs=>cs[off]?) ∧
    (∀ (T:Tm) (H:Hp) (op:BinOp) (ks:List TK) (x y:Opd),a8 T H (.binS op ks x y)=cf (ov T x) fun xs=>cf (ov T y) fun ys=>ja op ks xs ys) :=
 ⟨fun _ _ _=>rfl,fun _ _ _ _ _=>rfl,fun _ _ _=>rfl,fun _ _ _ _=>rfl,fun _ _ _ _ _ _ _=>rfl,fun _ _ _ _=>rfl,fun _ _ _ _=>rfl,fun _ _ _ _=>rfl,fun _ _ _ _ _=>rfl,fun _ _ _ _=>rfl,fun _ _ _=>rfl,
  fun _ _ _ _=>rfl,fun _ _ _ _=>rfl,fun _ _ _ _=>rfl,fun _ _ _ _=>rfl,fun _ _ _ _ _ _ _=>rfl,fun _ _ _ _=>rfl,fun _ _ _ _ _ _=>rfl⟩
def lO:AV→Option AV
 | .str s=>some (.int .i64 s.size)
 | _=>none
def iM:AV→AV→Option AV
 | .str s,.int _ n=>if 0 ≤ n∧n < s.size then some (.int .u8 (s[n.toNat]?.getD 0).toNat) else none
 | _,_=>none
theorem SV2:(∀ (T:Tm) (H:Hp) (n:Nat) (x:Opd) (lo hi:Option Opd),a8 T H (.slsA n x lo hi)=rl n (ov T x) (lo.map (ov T)) (hi.map (ov T)) none) ∧
    (∀ (T:Tm) (H:Hp) (f:FuncId) (l:List Opd),a8 T H (.mkbf f l)=some (.bfn f (l.map (ov T)))) ∧
    (∀ (T:Tm) (H:Hp) (x:Opd),a8 T H (.lenStr x)=lO (ov T x)) ∧
    (∀ (T:Tm) (H:Hp) (x i:Opd),a8 T H (.ixStr x i)=iM (ov T x) (ov T i)) ∧
    (∀ (T:Tm) (H:Hp) (x:Opd) (lo hi:Option Opd),a8 T H (.slstr x lo hi)=pF (ov T x) (lo.map (ov T)) (hi.map (ov T))) ∧
    (∀ (T:Tm) (H:Hp) (off k:Nat) (x:Opd),a8 T H (.partn off k x)=cf (ov T x) fun cs=>if off + k ≤ cs.length then some (.agg ((cs.drop off).take k)) else none) ∧
    (∀ (T:Tm) (H:Hp) (n:Nat),a8 T H (.lenC n)=some (.int .i64 n)) ∧
    (∀ (s:ByteArray),lO (.str s)=some (.int .i64 s.size)) ∧
    (∀ (s:ByteArray) (k:IntKind) (n:Int),iM (.str s) (.int k n)=if 0 ≤ n∧n < s.size then some (.int .u8 (s[n.toNat]?.getD 0).toNat) else none) :=
 ⟨fun _ _ _ _ _ _=>rfl,fun _ _ _ _=>rfl,fun T H x=>by
  simp only [a8]
  cases ov T x <;> rfl,fun T H x i=>by
  simp only [a8]
  cases ov T x <;> cases ov T i <;> rfl,fun _ _ _ _ _=>rfl,fun _ _ _ _ _=>rfl,fun _ _ _=>rfl,fun _=>rfl,fun _ _ _=>rfl⟩
theorem SN:(∀ (k:IntKind) (a b:Int) (tb tf:Bool),aZ .lss tb tf (.int k a) (.int k b)=some (.bool (decide (a < b))))∧(∀ (k:IntKind) (a b:Int) (tb tf:Bool),aZ .leq tb tf (.int k a) (.int k b)=some (.bool (decide (a ≤ b)))) ∧
    (∀ (k:IntKind) (a b:Int) (tb tf:Bool),aZ .gtr tb tf (.int k a) (.int k b)=some (.bool (decide (b < a))))∧(∀ (k:IntKind) (a b:Int) (tb tf:Bool),aZ .geq tb tf (.int k a) (.int k b)=some (.bool (decide (b ≤ a)))) ∧
    (∀ (k:IntKind) (a b:Int) (tb tf:Bool),aZ .eql tb tf (.int k a) (.int k b)=some (.bool (decide (a=b))))∧(∀ (k:IntKind) (a b:Int) (tb tf:Bool),aZ .neq tb tf (.int k a) (.int k b)=some (.bool (decide (a ≠ b)))) ∧
    (∀ (k:IntKind) (a b:Int) (tb tf:Bool),aZ .add tb tf (.int k a) (.int k b)=some (.int k (k.wrap (a + b))))∧(∀ (k:IntKind) (a b:Int) (tb tf:Bool),aZ .sub tb tf (.int k a) (.int k b)=some (.int k (k.wrap (a - b)))) ∧
    (∀ (k:IntKind) (a b:Int) (tb tf:Bool),aZ .mul tb tf (.int k a) (.int k b)=some (.int k (k.wrap (a * b)))) ∧
    (∀ (a b:Bool) (tf:Bool),aZ .eql true tf (.bool a) (.bool b)=some (.bool (a == b)))∧(∀ (a b:Bool) (tf:Bool),aZ .neq true tf (.bool a) (.bool b)=some (.bool (!(a == b)))) ∧
    (∀ tb:Bool,aZ .eql tb true .nilf .nilf=some (.bool true))∧(∀ tb:Bool,aZ .neq tb true .nilf .nilf=some (.bool false)) ∧
    (∀ (tb:Bool) (f:FuncId) (c:List AV),aZ .eql tb true (.func f c) .nilf=some (.bool false))∧(∀ (tb:Bool) (f:FuncId) (c:List AV),aZ .neq tb true (.func f c) .nilf=some (.bool true)) ∧
    (∀ b:Bool,aun .not (.bool b)=some (.bool (!b))) ∧
    (∀ (k:IntKind) (a b:Int),jF (.int k a) (.int k b)=some (.int k (max a b)))∧(∀ (k:IntKind) (a b:Int),jB (.int k a) (.int k b)=some (.int k (min a b))) ∧
    (∀ (f:AV→AV→Option AV) (x:AV),d5 f x []=some x)∧(∀ (f:AV→AV→Option AV) (x y:AV) (l:List AV),d5 f x (y :: l)=match f x y with | some z=>d5 f z l | none=>none) ∧
    (∀ (k:Nat) (b n off:Nat),gm k (.ptr b n off)=some (.ptr b n (off + k)))∧(∀ (k:Nat) (cs:List AV) (off:Nat),gm k (.iptr cs off)=some (.iptr cs (off + k))) ∧
    (∀ (cs:List AV) (off:Nat),rd1 bk (.iptr cs off)=cs[off]?) :=
 ⟨fun _ _ _ _ _=>xX,fun _ _ _ _ _=>xV,fun _ _ _ _ _=>xt,fun _ _ _ _ _=>xZ,fun _ _ _ _ _=>xO,fun _ _ _ _ _=>xj,fun _ _ _ _ _=>xM,fun _ _ _ _ _=>xU,fun _ _ _ _ _=>xy,
  fun _ _ _=>rfl,fun _ _ _=>rfl,fun _=>rfl,fun _=>rfl,fun _ _ _=>rfl,fun _ _ _=>rfl,fun _=>rfl,
  fun k a b=>by simp only [jF,Int.max_def]; split <;> split <;> simp <;> omega,fun k a b=>by simp only [jB,Int.min_def]; split <;> split <;> simp <;> omega,fun _ _=>rfl,fun _ _ _ _=>rfl,fun _ _ _ _=>rfl,fun _ _ _=>rfl,fun _ _=>rfl⟩
theorem SL:(∀ (a:AV) (l:List AV),(a :: l)[0]?=some a)∧(∀ (a:AV) (l:List AV) (n:Nat),(a :: l)[n + 1]?=l[n]?)∧(∀ (l:List AV),l.drop 0=l)∧(∀ (a:AV) (l:List AV) (n:Nat),(a :: l).drop (n + 1)=l.drop n)∧(∀ n:Nat,([]:List AV).drop n=[]) ∧
    (∀ (l:List AV),l.take 0=[])∧(∀ (a:AV) (l:List AV) (n:Nat),(a :: l).take (n + 1)=a :: l.take n)∧(∀ n:Nat,([]:List AV).take n=[])∧(∀ (l:List AV),[] ++ l=l)∧(∀ (l:List AV),l ++ []=l)∧(∀ (a:AV) (l m:List AV),(a :: l) ++ m=a :: (l ++ m)) ∧
    (∀ (cs:List AV) (off:Nat) (new:List AV),br cs off new=cs.take off ++ new ++ cs.drop (off + new.length))∧(([]:List AV).length=0)∧(∀ (a:AV) (l:List AV),(a :: l).length=l.length + 1) ∧
    (∀ (k:IntKind) (n:Int),(AV.int k n).cells=[.int k n])∧(∀ b:Bool,(AV.bool b).cells=[.bool b])∧(∀ s:ByteArray,(AV.str s).cells=[.str s])∧(∀ (k:Nat) (l:List AV),(AV.sl k l).cells=[.sl k l])∧(∀ l:List AV,(AV.agg l).cells=l)∧(AV.esl.cells=[.esl])∧(AV.nilf.cells=[.nilf]) ∧
    (∀ (f:FuncId) (c:List AV),(AV.func f c).cells=[.func f c])∧(∀ (b n off:Nat),(AV.ptr b n off).cells=[.ptr b n off])∧(∀ (c:List AV) (off:Nat),(AV.iptr c off).cells=[.iptr c off])∧(∀ (b n sz off len:Nat),(AV.msl b n sz off len).cells=[.msl b n sz off len])∧(∀ b:Nat,(AV.yld b).cells=[.yld b])∧(∀ b:Nat,(AV.mp b).cells=[.mp b])∧(AV.nilp.cells=[.nilp])∧(∀ (f:FuncId) (c:List AV),(AV.bfn f c).cells=[.bfn f c]) :=
 ⟨fun _ _=>rfl,fun _ _ _=>rfl,fun _=>rfl,fun _ _ _=>rfl,fun n=>by cases n <;> rfl,fun _=>rfl,fun _ _ _=>rfl,fun n=>by cases n <;> rfl,fun _=>rfl,fun l=>List.append_nil l,fun _ _ _=>rfl,fun _ _ _=>rfl,rfl,fun _ _=>rfl,
  fun _ _=>rfl,fun _=>rfl,fun _=>rfl,fun _ _=>rfl,fun _=>rfl,rfl,rfl,fun _ _=>rfl,fun _ _ _=>rfl,fun _ _=>rfl,fun _ _ _ _ _=>rfl,fun _=>rfl,fun _=>rfl,rfl,fun _ _=>rfl⟩
def AV.ones (l:List AV):Bool:=l.all AV.one
theorem SO:(AV.ones []=true)∧(∀ (a:AV) (l:List AV),AV.ones (a :: l)=(a.one && AV.ones l))∧(∀ (k:IntKind) (n:Int),(AV.int k n).one=true)∧(∀ b:Bool,(AV.bool b).one=true)∧(∀ s:ByteArray,(AV.str s).one=true)∧(∀ (k:Nat) (l:List AV),(AV.sl k l).one=true)∧(AV.esl.one=true)∧(AV.nilf.one=true) ∧
    (∀ (f:FuncId) (c:List AV),(AV.func f c).one=true)∧(∀ (b n off:Nat),(AV.ptr b n off).one=true)∧(∀ (c:List AV) (off:Nat),(AV.iptr c off).one=true)∧(∀ (b n sz off len:Nat),(AV.msl b n sz off len).one=true)∧(∀ b:Nat,(AV.yld b).one=true)∧(∀ b:Nat,(AV.mp b).one=true)∧(AV.nilp.one=true)∧(∀ l:List AV,l.all AV.one=AV.ones l) :=
 ⟨rfl,fun _ _=>by simp [AV.ones],fun _ _=>rfl,fun _=>rfl,fun _=>rfl,fun _ _=>rfl,rfl,rfl,fun _ _=>rfl,fun _ _ _=>rfl,fun _ _=>rfl,fun _ _ _ _ _=>rfl,fun _=>rfl,fun _=>rfl,rfl,fun _=>rfl⟩
variable {P:Program} {T:Tm} {H:Hp} {nx:Nat}
theorem pm {dm:DM} {K:SP} {l:List Op2} {d:Option Nat} {z:AV} {cs:List AV} (hd:dm2 dm T (.alloc z)=true) (hc:z.cells=cs) (ho:AV.ones cs=true) (k:aj P dm l (aE T d (.ptr nx cs.length 0)) (aq H nx cs) (nx + 1) K):aj P dm (⟨d,none,.alloc z⟩ :: l) T H nx K:=by
 subst hc
 refine iJ rfl hd ?_ k
 simp only [eY,nR]; rw [if_pos (show z.flat=true from ho)]
theorem yq {dm:DM} {K:SP} {l:List Op2} {d:Option Nat} {x:Opd} {v:AV} {cs:List AV} (hd:dm2 dm T (.box x)=true) (hx:ov T x=v) (hc:v.cells=cs) (ho:AV.ones cs=true) (k:aj P dm l (aE T d (.ptr nx cs.length 0)) (aq H nx cs) (nx + 1) K):aj P dm (⟨d,none,.box x⟩ :: l) T H nx K:=by
 subst hc hx
 refine iJ rfl hd ?_ k
 simp only [eY,nR]; rw [if_pos (show (ov T x).flat=true from ho)]
theorem zf {dm:DM} {K:SP} {l:List Op2} {d:Option Nat} {sz:Nat} {p x:Opd} {b n off:Nat} {v:AV} {cs vs:List AV} (hd:dm2 dm T (.st sz p x)=true) (hp:ov T p=.ptr b n off) (hx:ov T x=v) (hb:H b=some cs) (hc:v.cells=vs) (ho:AV.ones vs=true) (hn:cs.length=n) (hl:vs.length=sz) (hf:off + sz ≤ n)
    (k:aj P dm l (aE T d (.tup [])) (aq H b (br cs off vs)) nx K):aj P dm (⟨d,none,.st sz p x⟩ :: l) T H nx K:=by
 subst hc hx
 refine iJ rfl hd ?_ k
 simp only [eY,hp,hb]
 rw [if_pos ⟨hn,ho,hl,hf⟩]
theorem sP {dm:DM} {K:SP} {l:List Op2} {d:Option Nat} {sz bytes:Nat} {z:List AV} {x y:Opd} {k1 k2:IntKind} {n m:Int} (hd:dm2 dm T (.mks sz bytes z x y)=true) (hx:ov T x=.int k1 n) (hy:ov T y=.int k2 m) (h0:0 ≤ n) (h1:n ≤ m) (h2:m ≤ 9223372036854775807) (h3:bytes * m ≤ 281474976710656)
    (k:aj P dm l (aE T d (.msl nx (m.toNat * sz) sz 0 n.toNat)) (aq H nx (aY (.agg z) m.toNat)) (nx + 1) K):aj P dm (⟨d,none,.mks sz bytes z x y⟩ :: l) T H nx K:=by
 refine iJ rfl hd ?_ k
 simp only [eY,hx,hy]
 rw [if_pos ⟨h0,h1,h2,h3⟩]
theorem yj {dm:DM} {K:SP} {l:List Op2} {d:Option Nat} {sz len:Nat} {z:List AV} {parts:List (Nat × Nat × Opd)} {pv:List (Nat × Nat × AV)} {cs:List AV} (hd:dm2 dm T (.bldS sz len z parts)=true) (hl:len ≠ 0) (hp:parts.map (fun p=>(p.1,p.2.1,ov T p.2.2))=pv) (hc:cw (aY (.agg z) len) pv=some cs)
    (k:aj P dm l (aE T d (.msl nx cs.length sz 0 len)) (aq H nx cs) (nx + 1) K):aj P dm (⟨d,none,.bldS sz len z parts⟩ :: l) T H nx K:=by
 refine iJ rfl hd ?_ k
 simp only [eY,hl,if_false,hp,hc]
theorem yV {dm:DM} {K:SP} {l:List Op2} {d:Option Nat} {sz:Nat} {z:List AV} (hd:dm2 dm T (.bldS sz 0 z [])=true) (k:aj P dm l (aE T d .esl) H nx K):aj P dm (⟨d,none,.bldS sz 0 z []⟩ :: l) T H nx K:=by
 refine iJ rfl hd ?_ k
 simp [eY]
theorem pD {dm:DM} {K:SP} {l:List Op2} {d:Option Nat} {sz bytes n:Nat} {s x:Opd} {v:AV} {new:List AV} (hd:dm2 dm T (.app sz bytes s x)=true) (hs:ov T s=.esl) (hx:ov T x=v) (hsrc:dl sz H v=some (n,new)) (ho:AV.ones new=true) (h1:n * bytes ≤ 140737488355328) (h2:n ≤ 9223372036854775807)
    (k:aj P dm l (aE T d (.msl nx (n * sz) sz 0 n)) (aq H nx new) (nx + 1) K):aj P dm (⟨d,none,.app sz bytes s x⟩ :: l) T H nx K:=by
 subst hx
 refine iJ rfl hd ?_ k
 simp only [eY,xR,hs,hsrc]
 rw [if_pos (show new.all AV.one=true from ho),if_pos ⟨h1,h2⟩]
theorem wO {dm:DM} {K:SP} {l:List Op2} {d:Option Nat} {sz bytes n:Nat} {s x:Opd} {v:AV} {new cs:List AV} {b m len:Nat} (hd:dm2 dm T (.app sz bytes s x)=true) (hs:ov T s=.msl b m sz 0 len) (hb:H b=some cs) (hx:ov T x=v) (hsrc:dl sz H v=some (n,new)) (ho:AV.ones new=true) (hm:cs.length=m) (hl:m=len * sz)
    (h1:(len + n) * bytes ≤ 140737488355328) (h2:len + n ≤ 9223372036854775807)
    (k:aj P dm l (aE T d (.msl b ((len + n) * sz) sz 0 (len + n))) (aq H b (cs ++ new)) nx K):aj P dm (⟨d,none,.app sz bytes s x⟩ :: l) T H nx K:=by
 subst hx
 refine iJ rfl hd ?_ k
 simp only [eY,xR,hs,hsrc,hb]
 rw [if_pos (show new.all AV.one=true from ho),if_pos ⟨hm,trivial⟩,if_pos ⟨trivial,hl,h1,h2⟩]
theorem so {dm:DM} {K:SP} {l:List Op2} {d:Option Nat} {sz bytes n:Nat} {s x:Opd} {v:AV} {new cs:List AV} {b m off len:Nat} (hd:dm2 dm T (.app sz bytes s x)=true) (hs:ov T s=.msl b m sz off len) (hb:H b=some cs) (hx:ov T x=v) (hsrc:dl sz H v=some (n,new)) (ho:AV.ones new=true) (hm:cs.length=m) (hl:off=0→m ≠ len * sz) (h0:0 < m) (h1:off + (len + n) * sz ≤ m)
    (k:aj P dm l (aE T d (.msl b m sz off (len + n))) (aq H b (br cs (off + len * sz) new)) nx K):aj P dm (⟨d,none,.app sz bytes s x⟩ :: l) T H nx K:=by
 subst hx
 refine iJ rfl hd ?_ k
 simp only [eY,xR,hs,hsrc,hb]
 rw [if_pos (show new.all AV.one=true from ho),if_pos ⟨hm,trivial⟩,if_neg (fun h=>hl h.1 h.2.1),if_pos ⟨h1,h0⟩]
theorem o6 {sz:Nat} {l:List AV}:dl sz H (.sl sz l)=some (l.length,l.flatMap AV.cells):=by simp [dl]
theorem gR {sz b n off len:Nat} {cs:List AV} (h:H b=some cs) (hn:cs.length=n) (hf:off + len * sz ≤ n):dl sz H (.msl b n sz off len)=some (len,(cs.drop off).take (len * sz)):=by
 simp only [dl]
 split
 ·rename_i h0; subst h0; simp
 ·simp only [h,hn,true_and,hf,if_true]
theorem SR:(∀ (H:Hp) (b n off:Nat),rd1 H (.ptr b n off)=match H b with | some cs=>if cs.length=n then cs[off]? else none | none=>none) ∧
    (∀ (H:Hp) (k b n off:Nat),rd H k (.ptr b n off)=match H b with | some cs=>if cs.length=n∧off + k ≤ n then some ((cs.drop off).take k) else none | none=>none) ∧
    (∀ (H:Hp) (cs:List AV) (off:Nat),rd1 H (.iptr cs off)=cs[off]?)∧(∀ (H:Hp) (cs:List AV) (off k:Nat),rd H k (.iptr cs off)=if off + k ≤ cs.length then some ((cs.drop off).take k) else none) ∧
    (∀ (l:List AV) (i:Nat),ec (.tup l) i=l[i]?)∧(∀ (l:List AV) (f:List AV→Option AV),cf (.agg l) f=f l)∧(∀ (k:IntKind) (n:Int) (f:Int→Option AV),jw (.int k n) f=f n) ∧
    (∀ (cs:List AV),cw cs []=some cs) ∧
    (∀ (cs:List AV) (off sz:Nat) (x:AV) (r:List (Nat × Nat × AV)),cw cs ((off,sz,x) :: r)=if AV.ones x.cells=true∧x.cells.length=sz∧off + sz ≤ cs.length then cw (br cs off x.cells) r else none) ∧
    (∀ (b n sz off len:Nat),bE (.msl b n sz off len)=some (.int .i64 len))∧(bE .esl=some (.int .i64 0))∧(∀ (sz:Nat) (l:List AV),bE (.sl sz l)=some (.int .i64 l.length)) ∧
    (∀ (z:AV),aY z 0=[])∧(∀ (z:AV) (n:Nat),aY z (n + 1)=z.cells ++ aY z n) :=
 ⟨fun _ _ _ _=>rfl,fun _ _ _ _ _=>rfl,fun _ _ _=>rfl,fun _ _ _ _=>rfl,fun l i=>by cases l <;> rfl,fun _ _=>rfl,fun _ _ _=>rfl,fun _=>rfl,fun _ _ _ _ _=>rfl,fun _ _ _ _ _=>rfl,rfl,fun _ _=>rfl,fun _=>rfl,fun z n=>by simp [aY,List.replicate_succ]⟩
end Go.Abs
namespace Go.Abs
theorem bt {H:Hp} {a b:Bool} (h:a=b):Snap H (.bool a) (.bool b):=by subst h; exact .bool _
theorem co {H:Hp} {k:IntKind} {a b:Int} (h:a=b):Snap H (.int k a) (.int k b):=by subst h; exact .int _ _
theorem e7 {H:Hp} {l m:List AV} (h:aF H l m):Snap H (.tup l) (.tup m):=.tup l m h.1 h.2
theorem nK {H:Hp} {l m:List AV} (h:aF H l m):Snap H (.agg l) (.agg m):=.agg l m h.1 h.2
theorem ao {H:Hp} {x y:AV} {xs ys:List AV} (h:Snap H x y) (hs:aF H xs ys):aF H (x :: xs) (y :: ys):=aF.cons h hs
theorem Dat.snap {H:Hp} {x:AV} (h:Dat x):Snap H x x:=h H
theorem ba {P:Program} {b:C2} {T:Tm} {H:Hp} {nx:Nat} {K:CP} {X:Type} (L:X→List (Nat × AV)) (I:X→Hp→Nat→Prop) (μ:X→Nat) (x0:X) (h0:I x0 H nx) (hT:agr T (L x0))
    (step:∀ x H nx,I x H nx→aD P b (tl (L x)) H nx fun e T H' nx'=>aH e (∃ y,μ y < μ x∧I y H' nx'∧agr T (L y)) (K e T H' nx')):aP (aD P b) T H nx K:=by
 refine vV (X:=X × Hp × Nat) (fun x=>tl (L x.1)) (fun x=>x.2.1) (fun x=>x.2.2) (fun x=>I x.1 x.2.1 x.2.2) (fun x=>μ x.1) ⟨(x0,H,nx),h0,_,Gh.weak (nc hT)⟩ (fun x hx=>b6 b (step x.1 x.2.1 x.2.2 hx) (fun e T H' nx' h=>?_))
 cases e with
 | normal =>
  obtain ⟨y,h1,h2,h3⟩:=h
  exact ⟨(y,H',nx'),h2,h1,_,Gh.weak (nc h3)⟩
 | exit i=>exact h
 | ret=>exact h
def eM (Hf:Hp) (cs cs':List AV):Prop:=cs'.length=cs.length∧∀ (i:Nat) (x x':AV),cs[i]?=some x→cs'[i]?=some x'→x'=x ∨ Snap Hf x x'
theorem eM.refl (Hf:Hp) (cs:List AV):eM Hf cs cs:=⟨rfl,fun i x x' h1 h2=>.inl (by rw [h1] at h2; cases h2; rfl)⟩
theorem eM.snoc {Hf:Hp} {cs:List AV} {x x':AV} (h:Snap Hf x x'):eM Hf (cs ++ [x]) (cs ++ [x']):=by
 refine ⟨by simp,fun i y y' h1 h2=>?_⟩
 by_cases hi:i < cs.length
 ·rw [List.getElem?_append_left hi] at h1 h2; rw [h1] at h2; cases h2; exact .inl rfl
 ·rw [List.getElem?_append_right (by omega)] at h1 h2
  cases hj:i - cs.length with
  | zero=>rw [hj] at h1 h2; simp at h1 h2; subst h1 h2; exact .inr h
  | succ j=>rw [hj] at h1; simp at h1
structure Fz (Hf H H':Hp):Prop where
 sub:∀ b cs,Hf b=some cs→H b=some cs
 to:∀ b cs',H' b=some cs'→∃ cs,H b=some cs∧Hf b=none∧eM Hf cs cs'
def rU (Hf:Hp) (T:Tm):List (Nat × AV)→Prop
 | []=>True
 | (d,v) :: l=>(T d=v ∨ Snap Hf (T d) v)∧rU Hf T l
theorem tv {Hf:Hp} {T:Tm}:∀ {l:List (Nat × AV)},rU Hf T l→∀ t,tl l t=.undef ∨ tl l t=T t ∨ Snap Hf (T t) (tl l t)
 | [],_,t=>.inl rfl
 | (d,v) :: l,h,t=>by
  simp only [tl]
  split
  ·rename_i e; subst e
   rcases h.1 with h1 | h1
   ·exact .inr (.inl h1.symm)
   ·exact .inr (.inr h1)
  ·exact tv h.2 t
theorem Fz.gh {Hf H H':Hp} {T:Tm} {l:List (Nat × AV)} {nx:Nat} (h:Fz Hf H H') (ha:rU Hf T l):Gh T H nx (tl l) H' nx Hf :=
 ⟨h.sub,Nat.le_refl _,fun b cs' hb=>by
  obtain ⟨cs,h1,h2,h3,h4⟩:=h.to b cs' hb
  exact .inl ⟨cs,h1,h2,h3,fun i x x' hx hx'=>(h4 i x x' hx hx').imp id .inl⟩,fun t=>by
  rcases tv ha t with h1 | h1 | h1
  ·exact .inl h1
  ·exact .inr (.inl h1)
  ·exact .inr (.inr (.inl h1))⟩
def only (b:Nat) (cs:List AV):Hp:=fun x=>if x=b then some cs else none
theorem jK {b:Nat} {cs:List AV}:only b cs b=some cs:=by simp [only]
theorem tT {P:Program} {T:Tm} {H:Hp} {nx:Nat} {K:CP} {l:List Op2} (Hf H':Hp) (L:List (Nat × AV)) (hf:Fz Hf H H') (ha:rU Hf T L) (h:aj P .text l (tl L) H' nx fun T H nx=>K .normal T H nx):aD P (.ops 0 l) T H nx K:=⟨_,H',nx,Hf,hf.gh ha,h⟩
theorem Fz.one {H:Hp} {b:Nat} {cs:List AV} (hb:H b=some cs):Fz (only b cs) H (bK H b) :=
 ⟨fun x c h=>by unfold only at h; split at h <;> cases h; subst_vars; exact hb,fun x c h=>by
  have:=ku h
  exact ⟨c,this.2,by simp [only,this.1],eM.refl _ _⟩⟩
theorem Fz.all {H:Hp}:Fz H H bk:=⟨fun _ _ h=>h,fun _ _ h=>(by cases h)⟩
theorem gZ {T:Tm} {Hf:Hp}:∀ {l:List (Nat × AV)},agr T l→rU Hf T l
 | [],_=>trivial
 | (_,_) :: _,h=>⟨.inl h.1,gZ h.2⟩
theorem wv {P:Program} {b:C2} {T:Tm} {H:Hp} {nx:Nat} {K:CP} {X:Type} (L:X→List (Nat × AV)) (I:X→Hp→Nat→Prop) (μ:X→Nat) (x0:X) (h0:∃ Hf H',Fz Hf H H'∧I x0 H' nx∧rU Hf T (L x0))
    (step:∀ x H nx,I x H nx→aD P b (tl (L x)) H nx fun e T H' nx'=>aH e (∃ y,μ y < μ x∧∃ Hf H'',Fz Hf H' H''∧I y H'' nx'∧rU Hf T (L y)) (K e T H' nx')):aP (aD P b) T H nx K:=by
 obtain ⟨Hf,H0,hf,hI,ha⟩:=h0
 refine vV (X:=X × Hp × Nat) (fun x=>tl (L x.1)) (fun x=>x.2.1) (fun x=>x.2.2) (fun x=>I x.1 x.2.1 x.2.2) (fun x=>μ x.1) ⟨(x0,H0,nx),hI,_,hf.gh ha⟩ (fun x hx=>b6 b (step x.1 x.2.1 x.2.2 hx) (fun e T H' nx' h=>?_))
 cases e with
 | normal =>
  obtain ⟨y,h1,Hf,H'',h2,h3,h4⟩:=h
  exact ⟨(y,H'',nx'),h3,h1,_,h2.gh h4⟩
 | exit i=>exact h
 | ret=>exact h
theorem Fz.none {H:Hp}:Fz bk H H:=⟨fun _ _ h=>(by cases h),fun b cs h=>⟨cs,h,rfl,eM.refl _ _⟩⟩
theorem ko {α:Type} [DecidableEq α] (k:MK) (enc:α→AV) (h:∀ a b,jE k (enc a) (enc b)=some (decide (a=b))) (v:α):∀ ks:List α,bG k (enc v) (ks.map enc)=some (if v ∈ ks then some (ks.idxOf v) else none)
 | []=>rfl
 | x :: l=>by
  simp only [List.map_cons,bG,h]
  by_cases e:v=x
  ·subst e; simp
  ·have e':x ≠ v:=fun h=>e h.symm
   simp only [e,decide_false,ko k enc h v l,Option.map_some,List.mem_cons,false_or]
   by_cases hm:v ∈ l
   ·simp only [hm,if_true,Option.map_some]
    simp [List.idxOf_cons,beq_eq_false_iff_ne.2 e']
   ·simp [hm]
theorem oG {α:Type} {l:List α} {n k:Nat} {d:α} (h:k < n):(l.take n).getD k d=l.getD k d:=by
 simp only [List.getD,List.getElem?_take,if_pos h]
theorem sJ {α:Type} [Inhabited α] {l:List α} {k:Nat} (h:k < l.length):l.take (k + 1)=l.take k ++ [l.getD k default]:=by
 rw [List.take_add_one]; simp [List.getD,h]
theorem fJ {α:Type} [Inhabited α] {l:List α} {k:Nat} (h:k < l.length):l.drop k=l.getD k default :: l.drop (k + 1):=by
 rw [List.drop_eq_getElem_cons h]; simp [List.getD,h]
theorem ah {H:Hp} {b:Nat} {cs:List AV}:aq H b cs b=some cs:=if_pos rfl
theorem uA {H:Hp} {f:FuncId} {l m:List AV} (h:aF H l m):Snap H (.func f l) (.func f m):=.func f l m h.1 h.2
theorem qE {H:Hp} {b n off:Nat} {cs cs':List AV} (hb:H b=some cs) (hn:cs.length=n) (h:aF H cs cs'):Snap H (.ptr b n off) (.iptr cs' off):=.ptr b n off cs cs' hb hn (by rw [h.1,hn]) h.2
theorem Dat.iptr {cs:List AV} {off:Nat} (h:∀ x ∈ cs,Dat x):Dat (.iptr cs off):=fun H=>.iptr cs cs off rfl (fun i a c ha hc=>by rw [ha] at hc; cases hc; exact h a (List.mem_of_getElem? ha) H)
theorem DatL.nil:∀ x ∈ ([]:List AV),Dat x:=by simp
theorem DatL.cons {x:AV} {l:List AV} (h:Dat x) (hl:∀ y ∈ l,Dat y):∀ y ∈ x :: l,Dat y:=fun y hy=>(List.mem_cons.1 hy).elim (fun e=>e ▸ h) (hl y)
theorem fK {H:Hp} {b n off len:Nat} {cs:List AV} {l:List AV} (hb:H b=some cs) (hn:cs.length=n) (hf:off + len ≤ n) (hl:l.length=len) (hc:∀ y ∈ l,y.cells=[y]) (h:∀ (i:Nat) (a c:AV),cs[off + i]?=some a→l[i]?=some c→Snap H a c):Snap H (.msl b n 1 off len) (.sl 1 l):=by
 refine .msl b n 1 off len cs l hb hn (by omega) hl (fun y hy=>by rw [hc y hy]; rfl) (fun i j y a c hy hc' ha=>?_)
 rw [hc y (List.mem_of_getElem? hy)] at hc'
 cases j with
 | zero=>simp at hc'; subst hc'; exact h i a y (by simpa using ha) hy
 | succ j=>simp at hc'
theorem bl {H:Hp} {b n len:Nat} {l:List Int} (hb:H b=some (l.map (AV.int .i64))) (hn:n=len) (hl:l.length=len):Snap H (.msl b n 1 0 len) (bg l):=by
 subst hn
 refine fK hb (by simp [hl]) (by omega) (by simp [hl]) (fun y hy=>by simp at hy; obtain ⟨n,_,rfl⟩:=hy; rfl) (fun i a c ha hc=>?_)
 rw [Nat.zero_add] at ha
 rw [ha] at hc; cases hc
 simp at ha
 obtain ⟨n,_,rfl⟩:=ha
 exact .int _ _
theorem aU {H:Hp}:∀ {l:List AV},(∀ x ∈ l,Dat x)→aF H l l
 | [],_=>aF.nil
 | x :: l,h=>aF.cons (h x (by simp) H) (aU (fun y hy=>h y (by simp [hy])))
theorem aJ {α:Type} [Inhabited α] {l:List α} {k:Nat} (h:k < l.length):l.getD k default ∈ l:=by
 have:l.getD k default=l[k]:=by simp [List.getD,h]
 rw [this]; exact List.getElem_mem h
theorem il {H:Hp} {l:List Int}:dl 1 H (bg l)=some (l.length,l.map (AV.int .i64)):=by
 unfold bg; rw [o6]
 congr 2
 ·simp
 ·induction l with
  | nil=>rfl
  | cons a l ih=>simp only [List.map_cons,List.flatMap_cons,ih]; rfl
theorem jy {l:List Int}:AV.ones (l.map (AV.int .i64))=true:=by
 simp [AV.ones,AV.one]
theorem ee {l:List Int}:(bg l).one=true:=rfl
theorem dF {l:List (List Int)}:(bi l).one=true:=rfl
theorem og {H:Hp} {b n len:Nat} {l:List AV} (hb:H b=some l) (hn:n=len) (hl:l.length=len) (hc:∀ y ∈ l,y.cells=[y]∧Dat y):Snap H (.msl b n 1 0 len) (.sl 1 l):=by
 subst hn
 refine fK hb hl (by omega) hl (fun y hy=>(hc y hy).1) (fun i a c ha hc'=>?_)
 rw [Nat.zero_add] at ha
 rw [ha] at hc'; cases hc'
 exact (hc a (List.mem_of_getElem? ha)).2 H
theorem r_0 {T:Tm} {H:Hp} {K:AV→Prop} (h:K (.tup [])):bd T H K []:=h
theorem getElem?_map_lt {α:Type} [Inhabited α] {f:α→AV} {l:List α} {k:Nat} (h:k < l.length):(l.map f)[k]?=some (f (l.getD k default)):=by
 simp [List.getD,h]
theorem wN {sz b m off len:Nat} {k:IntKind} {n:Int}:cR sz (.msl b m sz off len) (.int k n)=if 0 ≤ n∧n < len then some (.ptr b m (off + n.toNat * sz)) else none:=by simp [cR]
theorem ij {P:Program} {T:Tm} {H:Hp} {nx:Nat} {K:CP} {g:Opd} {ps:List Nat} {a b:C2} {f:FuncId} {caps:List AV} (y y1:Nat) (hy:nx=y) (hy1:y + 1=y1) (hg:ov T g=.func f caps)
    (h:∀ (c0:AV) (cj:AEx→AV),(∀ (args:List AV) (H':Hp) (nx':Nat) (K':AV→Hp→Nat→Prop),H' y=some [c0]→args.length=ps.length →
        aD P a (fA T ps args) H' nx' (fun e T2 H2 nx2=>aH e (H2 y=some [c0]∧aD P b T2 (bK H2 y) nx2 fun e T3 H3 nx3=>aH e (K' (.bool true) (aq H3 y [c0]) nx3) (K' (.bool false) (aq H3 y [cj e]) nx3)) False) →
        Yl P y args H' nx' K') →
     Fn P f (.yld y :: caps) (aq H y [c0]) y1 fun _ H' nx'=>(H' y=some [c0]∧K .normal T (bK H' y) nx') ∨ ∃ e,e ≠ .normal∧H' y=some [cj e]∧K e T (bK H' y) nx'):aD P (.rangeF g ps a b) T H nx K:=by
 subst hy hy1
 exact w5 hg h
end Go.Abs
namespace Go.Abs
inductive Row (H:Hp) (sz:Nat):AV→List AV→Prop
 | nil:Row H sz .esl []
 | box (b len:Nat) (cs:List AV) (hb:H b=some cs) (hl:cs.length=len * sz):Row H sz (.msl b (len * sz) sz 0 len) cs
def bT:AV→Option Nat
 | .msl b _ _ _ _=>some b
 | _=>none
theorem Row.len {H:Hp} {sz:Nat} {s:AV} {cs:List AV} (h:Row H sz s cs):∃ n:Nat,bE s=some (.int .i64 n)∧cs.length=n * sz:=by
 cases h with
 | nil=>exact ⟨0,rfl,by simp⟩
 | box b len cs hb hl=>exact ⟨len,rfl,hl⟩
theorem Row.lenS {H:Hp} {sz n:Nat} {s:AV} {cs:List AV} (h:Row H sz s cs) (hl:cs.length=n * sz) (hz:0 < sz):bE s=some (.int .i64 n):=by
 obtain ⟨m,h1,h2⟩:=h.len
 have:m=n:=Nat.eq_of_mul_eq_mul_right hz (by omega)
 subst this; exact h1
theorem Row.same {H H':Hp} {sz:Nat} {s:AV} {cs:List AV} (h:Row H sz s cs) (hs:∀ b,bT s=some b→H' b=H b):Row H' sz s cs:=by
 cases h with
 | nil=>exact .nil
 | box b len cs hb hl=>exact .box b len cs ((hs b rfl).trans hb) hl
theorem Row.one {H:Hp} {sz:Nat} {s:AV} {cs:List AV} (h:Row H sz s cs):s.one=true∧s.cells=[s]:=by
 cases h <;> exact ⟨rfl,rfl⟩
theorem af {H:Hp} {b x:Nat} {cs:List AV} (h:x ≠ b):aq H b cs x=H x:=if_neg h
theorem bJ {H:Hp} {b x:Nat} (h:x ≠ b):bK H b x=H x:=if_neg h
variable {P:Program} {T:Tm} {H:Hp} {nx:Nat}
theorem dK {dm:DM} {K:SP} {l:List Op2} {d:Option Nat} {sz bytes k:Nat} {s x:Opd} {sv xv:AV} {cs new:List AV} (hd:dm2 dm T (.app sz bytes s x)=true) (hs:ov T s=sv) (hrow:Row H sz sv cs) (hx:ov T x=xv) (hsrc:dl sz H xv=some (k,new)) (ho:AV.ones new=true) (hk:new.length=k * sz)
    (hz:0 < sz) (h1:(cs.length + k) * bytes ≤ 140737488355328) (h2:cs.length + k ≤ 9223372036854775807)
    (next:∀ (sv':AV) (H':Hp) (nx':Nat),Row H' sz sv' (cs ++ new)→nx ≤ nx'→nx' ≤ nx + 1→(∀ i,i < nx→bT sv ≠ some i→H' i=H i)→(∀ b,bT sv'=some b→bT sv=some b ∨ b=nx∧nx'=nx + 1)→aj P dm l (aE T d sv') H' nx' K) :
    aj P dm (⟨d,none,.app sz bytes s x⟩ :: l) T H nx K:=by
 cases hrow with
 | nil =>
  refine pD hd hs hx hsrc ho (by simpa using h1) (by simpa using h2) ?_
  exact next _ _ _ (.box nx k new ah hk) (Nat.le_succ _) (Nat.le_refl _) (fun i hi _=>af (by omega)) (fun b hb=>by cases hb; exact .inr ⟨rfl,rfl⟩)
 | box b len cs hb hl =>
  have hle:len ≤ cs.length:=by rw [hl]; exact Nat.le_mul_of_pos_right _ hz
  have hb1:(len + k) * bytes ≤ 140737488355328:=Nat.le_trans (Nat.mul_le_mul_right _ (by omega)) h1
  refine wO hd hs hb hx hsrc ho hl rfl hb1 (by omega) ?_
  exact next _ _ _ (.box b (len + k) (cs ++ new) ah (by rw [List.length_append,hl,hk,Nat.add_mul])) (Nat.le_refl _) (Nat.le_succ _) (fun i hi hne=>af (fun e=>hne (by rw [e]; rfl))) (fun b' hb'=>by cases hb'; exact .inl rfl)
theorem Row.snap {H:Hp} {sz:Nat} {s:AV} {elems:List AV} (h:Row H sz s (elems.flatMap AV.cells)) (hc:∀ y ∈ elems,y.cells.length=sz) (hz:0 < sz) (hd:∀ y ∈ elems,∀ c ∈ y.cells,Dat c):Snap H s (.sl sz elems):=by
 obtain ⟨f1,f2⟩:=b8 elems hc
 generalize he:elems.flatMap AV.cells=cs at h
 cases h with
 | nil =>
  have:elems.length * sz=0:=by rw [← f1,he]; rfl
  have:elems=[]:=List.length_eq_zero_iff.1 (by
   rcases Nat.mul_eq_zero.1 this with h | h
   ·exact h
   ·omega)
  subst this; exact .eslsl sz
 | box b len cs hb hl =>
  have hlen:elems.length=len:=Nat.eq_of_mul_eq_mul_right hz (by rw [← f1,he,hl])
  refine .msl b (len * sz) sz 0 len cs elems hb hl (by omega) hlen hc (fun i j y a c hy hc' ha=>?_)
  have hj:j < sz:=by rw [← hc y (List.mem_of_getElem? hy)]; exact (List.getElem?_eq_some_iff.1 hc').1
  have key:∀ (l:List AV) (i j:Nat) (y c:AV),(∀ z ∈ l,z.cells.length=sz)→l[i]?=some y→y.cells[j]?=some c→j < sz→(l.flatMap AV.cells)[i * sz + j]?=some c:=by
   intro l
   induction l with
   | nil=>intro i j y c _ h; simp at h
   | cons x l ih =>
    intro i j y c hl hy hc hj
    rw [List.flatMap_cons]
    cases i with
    | zero =>
     simp at hy; subst hy
     rw [Nat.zero_mul,Nat.zero_add,List.getElem?_append_left (by rw [hl x (by simp)]; exact hj)]; exact hc
    | succ i =>
     rw [List.getElem?_append_right (by rw [hl x (by simp),Nat.add_mul]; omega),hl x (by simp)]
     have:=ih i j y c (fun z hz=>hl z (by simp [hz])) (by simpa using hy) hc hj
     rw [← this]; congr 1; rw [Nat.add_mul]; omega
  have:=key elems i j y c hc hy hc' hj
  rw [he,← Nat.zero_add (i * sz)] at this
  rw [this] at ha; cases ha
  exact hd y (List.mem_of_getElem? hy) a (List.mem_of_getElem? hc') H
theorem fu {α:Type} {f:α→AV} (h:∀ x,(f x).cells=[f x]) (l:List α):(l.map f).flatMap AV.cells=l.map f:=by
 induction l with
 | nil=>rfl
 | cons a l ih=>rw [List.map_cons,List.flatMap_cons,ih,h]; rfl
theorem Row.snapV {H:Hp} {s:AV} {l:List (List Int)} (h:Row H 1 s (l.map bg)):Snap H s (bi l):=by
 refine Row.snap (elems:=l.map bg) (by rw [fu (fun _=>rfl)]; exact h) (fun y hy=>?_) Nat.one_pos (fun y hy c hc=>?_)
 ·simp at hy; obtain ⟨n,_,rfl⟩:=hy; rfl
 ·simp at hy; obtain ⟨n,_,rfl⟩:=hy
  simp only [sy,List.mem_singleton] at hc; subst hc; exact dr n
theorem Row.snapI {H:Hp} {s:AV} {l:List Int} (h:Row H 1 s (l.map (AV.int .i64))):Snap H s (bg l):=by
 refine Row.snap (elems:=l.map (AV.int .i64)) (by rw [fu (fun _=>rfl)]; exact h) (fun y hy=>?_) Nat.one_pos (fun y hy c hc=>?_)
 ·simp at hy; obtain ⟨n,_,rfl⟩:=hy; rfl
 ·simp at hy; obtain ⟨n,_,rfl⟩:=hy
  simp only [vb,List.mem_singleton] at hc; subst hc; exact .int
theorem bw {K:CP} {x y:C2} (M:SP) (h1:aD P x T H nx fun e T H nx=>aH e (M T H nx) (K e T H nx)) (h2:∀ T H nx,M T H nx→aD P y T H nx K):aD P (.seq x y) T H nx K:=by
 refine en (b6 x h1 (fun e T H nx h=>?_))
 cases e with
 | normal=>exact h2 T H nx h
 | exit i=>exact h
 | ret=>exact h
end Go.Abs
namespace Go.Abs
theorem AZ:(∀ l:List Int,(bg l).cells=[bg l])∧(∀ l:List (List Int),(bi l).cells=[bi l])∧(∀ x:Nat,bk x=none) ∧
    (∀ (α β:Type) (f:α→β) (a:α) (l:List α),(a :: l).map f=f a :: l.map f)∧(∀ (α β:Type) (f:α→β),([]:List α).map f=[])∧(∀ (α β:Type) (f:α→β) (a:α),(some a).map f=some (f a))∧(∀ (α β:Type) (f:α→β),(none:Option α).map f=none) ∧
    (∀ n:Nat,0 + n=n)∧(∀ n:Nat,n + 0=n)∧(∀ p:Prop,(p∧p)=p)∧(∀ p:Prop,(p∧True)=p)∧(∀ p:Prop,(True∧p)=p)∧((!true)=false)∧((!false)=true) ∧
    (∀ (α:Type) (a:α) (l m:List α),(a :: l) ++ m=a :: (l ++ m))∧(∀ (α:Type) (l:List α),[] ++ l=l)∧(∀ (α:Type) (l:List α),l ++ []=l) :=
 ⟨fun _=>rfl,fun _=>rfl,fun _=>rfl,fun _ _ _ _ _=>rfl,fun _ _ _=>rfl,fun _ _ _ _=>rfl,fun _ _ _=>rfl,Nat.zero_add,Nat.add_zero,and_self,and_true,true_and,rfl,rfl,fun _ _ _ _=>rfl,fun _ _=>rfl,fun _ l=>List.append_nil l⟩
theorem bR:(∀ (H:Hp) (b x:Nat) (cs:List AV),aq H b cs x=if x=b then some cs else H x)∧(∀ (H:Hp) (b x:Nat),bK H b x=if x=b then none else H x):=⟨fun _ _ _ _=>rfl,fun _ _ _=>rfl⟩
theorem ci:(∀ (H:Hp) (b:Nat) (cs:List AV),aq H b cs b=some cs)∧(∀ (H:Hp) (b x:Nat) (cs:List AV),x ≠ b→aq H b cs x=H x)∧(∀ (H:Hp) (b:Nat),bK H b b=none)∧(∀ (H:Hp) (b x:Nat),x ≠ b→bK H b x=H x)∧(∀ a b c:Nat,a + b + c=a + (b + c)) :=
 ⟨fun _ _ _=>ah,fun _ _ _ _ h=>af h,fun _ _=>dY,fun _ _ _ h=>bJ h,Nat.add_assoc⟩
theorem ZA:((∀ l:List Int,(bg l).cells=[bg l])∧(∀ l:List (List Int),(bi l).cells=[bi l])∧(∀ x:Nat,bk x=none) ∧
    (∀ (α β:Type) (f:α→β) (a:α) (l:List α),(a :: l).map f=f a :: l.map f)∧(∀ (α β:Type) (f:α→β),([]:List α).map f=[])∧(∀ (α β:Type) (f:α→β) (a:α),(some a).map f=some (f a))∧(∀ (α β:Type) (f:α→β),(none:Option α).map f=none) ∧
    (∀ n:Nat,0 + n=n)∧(∀ n:Nat,n + 0=n)∧(∀ p:Prop,(p∧p)=p)∧(∀ p:Prop,(p∧True)=p)∧(∀ p:Prop,(True∧p)=p)∧((!true)=false)∧((!false)=true) ∧
    (∀ (α:Type) (a:α) (l m:List α),(a :: l) ++ m=a :: (l ++ m))∧(∀ (α:Type) (l:List α),[] ++ l=l)∧(∀ (α:Type) (l:List α),l ++ []=l)) ∧
    ((∀ (T:Tm) (n:Nat),ov T (.t n)=T n)∧(∀ (T:Tm) (v:AV),ov T (.c v)=v)∧(∀ (T:Tm) (d t:Nat) (v:AV),upd T d v t=if t=d then v else T t)∧(∀ (T:Tm) (d:Nat) (v:AV),aE T (some d) v=upd T d v) ∧
    (∀ (T:Tm) (v:AV),aE T none v=T)∧(∀ (x:AV) (l:List AV),T0 (x :: l) 0=x)∧(∀ (x:AV) (l:List AV) (n:Nat),T0 (x :: l) (n + 1)=T0 l n)∧(∀ n:Nat,T0 [] n=.undef) ∧
    (∀ (d t:Nat) (v:AV) (l:List (Nat × AV)),tl ((d,v) :: l) t=if t=d then v else tl l t)∧(∀ t:Nat,tl [] t=.undef) ∧
    (∀ (T:Tm) (t:Nat) (ts:List Nat) (x:AV) (xs:List AV),fA T (t :: ts) (x :: xs)=fA (upd T t x) ts xs)∧(∀ (T:Tm) (xs:List AV),fA T [] xs=T)) ∧
    ((∀ (T:Tm) (H:Hp) (x:Opd),a8 T H (.mov x)=some (ov T x)) ∧
    (∀ (T:Tm) (H:Hp) (c a b:Opd),a8 T H (.pick c a b)=match ov T c with | .bool t=>some (if t=true then ov T a else ov T b) | _=>none) ∧
    (∀ (T:Tm) (H:Hp) (a:Opd),a8 T H (.ld1 a)=rd1 H (ov T a))∧(∀ (T:Tm) (H:Hp) (k:Nat) (a:Opd),a8 T H (.ldn k a)=(rd H k (ov T a)).map .agg) ∧
    (∀ (T:Tm) (H:Hp) (op:BinOp) (tb tf:Bool) (x y:Opd),a8 T H (.bin op tb tf x y)=aZ op tb tf (ov T x) (ov T y)) ∧
    (∀ (T:Tm) (H:Hp) (op:UnOp) (x:Opd),a8 T H (.un op x)=aun op (ov T x)) ∧
    (∀ (T:Tm) (H:Hp) (f:FuncId) (caps:List Opd),a8 T H (.mkfn f caps)=some (.func f (caps.map (ov T)))) ∧
    (∀ (T:Tm) (H:Hp) (k:Nat) (p:Opd),a8 T H (.fa k p)=gm k (ov T p)) ∧
    (∀ (T:Tm) (H:Hp) (sz:Nat) (x i:Opd),a8 T H (.ixaS sz x i)=cR sz (ov T x) (ov T i)) ∧
    (∀ (T:Tm) (H:Hp) (x:Opd) (i:Nat),a8 T H (.ext x i)=ec (ov T x) i) ∧
    (∀ (T:Tm) (H:Hp) (x:Opd),a8 T H (.lenS x)=bE (ov T x)) ∧
    (∀ (T:Tm) (H:Hp) (z:List AV) (parts:List (Nat × Nat × Opd)),a8 T H (.bld z parts)=(cw z (parts.map fun p=>(p.1,p.2.1,ov T p.2.2))).map .agg) ∧
    (∀ (T:Tm) (H:Hp) (x:Opd) (l:List Opd),a8 T H (.mx x l)=d5 jF (ov T x) (l.map (ov T))) ∧
    (∀ (T:Tm) (H:Hp) (x:Opd) (l:List Opd),a8 T H (.mn x l)=d5 jB (ov T x) (l.map (ov T))) ∧
    (∀ (T:Tm) (H:Hp) (k:IntKind) (x:Opd),a8 T H (.conv k x)=jw (ov T x) fun n=>some (.int k (k.wrap n))) ∧
    (∀ (T:Tm) (H:Hp) (sz:Nat) (x:Opd) (lo hi mx:Option Opd),a8 T H (.sls sz x lo hi mx)=ip sz (ov T x) (lo.map (ov T)) (hi.map (ov T)) (mx.map (ov T))) ∧
    (∀ (T:Tm) (H:Hp) (off:Nat) (x:Opd),a8 T H (.part1 off x)=cf (ov T x) fun cs=>cs[off]?) ∧
    (∀ (T:Tm) (H:Hp) (op:BinOp) (ks:List TK) (x y:Opd),a8 T H (.binS op ks x y)=cf (ov T x) fun xs=>cf (ov T y) fun ys=>ja op ks xs ys)) ∧
    ((∀ (T:Tm) (H:Hp) (n:Nat) (x:Opd) (lo hi:Option Opd),a8 T H (.slsA n x lo hi)=rl n (ov T x) (lo.map (ov T)) (hi.map (ov T)) none) ∧
    (∀ (T:Tm) (H:Hp) (f:FuncId) (l:List Opd),a8 T H (.mkbf f l)=some (.bfn f (l.map (ov T)))) ∧
    (∀ (T:Tm) (H:Hp) (x:Opd),a8 T H (.lenStr x)=lO (ov T x)) ∧
    (∀ (T:Tm) (H:Hp) (x i:Opd),a8 T H (.ixStr x i)=iM (ov T x) (ov T i)) ∧
    (∀ (T:Tm) (H:Hp) (x:Opd) (lo hi:Option Opd),a8 T H (.slstr x lo hi)=pF (ov T x) (lo.map (ov T)) (hi.map (ov T))) ∧
    (∀ (T:Tm) (H:Hp) (off k:Nat) (x:Opd),a8 T H (.partn off k x)=cf (ov T x) fun cs=>if off + k ≤ cs.length then some (.agg ((cs.drop off).take k)) else none) ∧
    (∀ (T:Tm) (H:Hp) (n:Nat),a8 T H (.lenC n)=some (.int .i64 n)) ∧
    (∀ (s:ByteArray),lO (.str s)=some (.int .i64 s.size)) ∧
    (∀ (s:ByteArray) (k:IntKind) (n:Int),iM (.str s) (.int k n)=if 0 ≤ n∧n < s.size then some (.int .u8 (s[n.toNat]?.getD 0).toNat) else none)) ∧
    ((∀ (k:IntKind) (a b:Int) (tb tf:Bool),aZ .lss tb tf (.int k a) (.int k b)=some (.bool (decide (a < b))))∧(∀ (k:IntKind) (a b:Int) (tb tf:Bool),aZ .leq tb tf (.int k a) (.int k b)=some (.bool (decide (a ≤ b)))) ∧
    (∀ (k:IntKind) (a b:Int) (tb tf:Bool),aZ .gtr tb tf (.int k a) (.int k b)=some (.bool (decide (b < a))))∧(∀ (k:IntKind) (a b:Int) (tb tf:Bool),aZ .geq tb tf (.int k a) (.int k b)=some (.bool (decide (b ≤ a)))) ∧
    (∀ (k:IntKind) (a b:Int) (tb tf:Bool),aZ .eql tb tf (.int k a) (.int k b)=some (.bool (decide (a=b))))∧(∀ (k:IntKind) (a b:Int) (tb tf:Bool),aZ .neq tb tf (.int k a) (.int k b)=some (.bool (decide (a ≠ b)))) ∧
    (∀ (k:IntKind) (a b:Int) (tb tf:Bool),aZ .add tb tf (.int k a) (.int k b)=some (.int k (k.wrap (a + b))))∧(∀ (k:IntKind) (a b:Int) (tb tf:Bool),aZ .sub tb tf (.int k a) (.int k b)=some (.int k (k.wrap (a - b)))) ∧
    (∀ (k:IntKind) (a b:Int) (tb tf:Bool),aZ .mul tb tf (.int k a) (.int k b)=some (.int k (k.wrap (a * b)))) ∧
    (∀ (a b:Bool) (tf:Bool),aZ .eql true tf (.bool a) (.bool b)=some (.bool (a == b)))∧(∀ (a b:Bool) (tf:Bool),aZ .neq true tf (.bool a) (.bool b)=some (.bool (!(a == b)))) ∧
    (∀ tb:Bool,aZ .eql tb true .nilf .nilf=some (.bool true))∧(∀ tb:Bool,aZ .neq tb true .nilf .nilf=some (.bool false)) ∧
    (∀ (tb:Bool) (f:FuncId) (c:List AV),aZ .eql tb true (.func f c) .nilf=some (.bool false))∧(∀ (tb:Bool) (f:FuncId) (c:List AV),aZ .neq tb true (.func f c) .nilf=some (.bool true)) ∧
    (∀ b:Bool,aun .not (.bool b)=some (.bool (!b))) ∧
    (∀ (k:IntKind) (a b:Int),jF (.int k a) (.int k b)=some (.int k (max a b)))∧(∀ (k:IntKind) (a b:Int),jB (.int k a) (.int k b)=some (.int k (min a b))) ∧
    (∀ (f:AV→AV→Option AV) (x:AV),d5 f x []=some x)∧(∀ (f:AV→AV→Option AV) (x y:AV) (l:List AV),d5 f x (y :: l)=match f x y with | some z=>d5 f z l | none=>none) ∧
    (∀ (k:Nat) (b n off:Nat),gm k (.ptr b n off)=some (.ptr b n (off + k)))∧(∀ (k:Nat) (cs:List AV) (off:Nat),gm k (.iptr cs off)=some (.iptr cs (off + k))) ∧
    (∀ (cs:List AV) (off:Nat),rd1 bk (.iptr cs off)=cs[off]?)) ∧
    ((∀ (H:Hp) (b n off:Nat),rd1 H (.ptr b n off)=match H b with | some cs=>if cs.length=n then cs[off]? else none | none=>none) ∧
    (∀ (H:Hp) (k b n off:Nat),rd H k (.ptr b n off)=match H b with | some cs=>if cs.length=n∧off + k ≤ n then some ((cs.drop off).take k) else none | none=>none) ∧
    (∀ (H:Hp) (cs:List AV) (off:Nat),rd1 H (.iptr cs off)=cs[off]?)∧(∀ (H:Hp) (cs:List AV) (off k:Nat),rd H k (.iptr cs off)=if off + k ≤ cs.length then some ((cs.drop off).take k) else none) ∧
    (∀ (l:List AV) (i:Nat),ec (.tup l) i=l[i]?)∧(∀ (l:List AV) (f:List AV→Option AV),cf (.agg l) f=f l)∧(∀ (k:IntKind) (n:Int) (f:Int→Option AV),jw (.int k n) f=f n) ∧
    (∀ (cs:List AV),cw cs []=some cs) ∧
    (∀ (cs:List AV) (off sz:Nat) (x:AV) (r:List (Nat × Nat × AV)),cw cs ((off,sz,x) :: r)=if AV.ones x.cells=true∧x.cells.length=sz∧off + sz ≤ cs.length then cw (br cs off x.cells) r else none) ∧
    (∀ (b n sz off len:Nat),bE (.msl b n sz off len)=some (.int .i64 len))∧(bE .esl=some (.int .i64 0))∧(∀ (sz:Nat) (l:List AV),bE (.sl sz l)=some (.int .i64 l.length)) ∧
    (∀ (z:AV),aY z 0=[])∧(∀ (z:AV) (n:Nat),aY z (n + 1)=z.cells ++ aY z n)) ∧
    ((∀ (a:AV) (l:List AV),(a :: l)[0]?=some a)∧(∀ (a:AV) (l:List AV) (n:Nat),(a :: l)[n + 1]?=l[n]?)∧(∀ (l:List AV),l.drop 0=l)∧(∀ (a:AV) (l:List AV) (n:Nat),(a :: l).drop (n + 1)=l.drop n)∧(∀ n:Nat,([]:List AV).drop n=[]) ∧
    (∀ (l:List AV),l.take 0=[])∧(∀ (a:AV) (l:List AV) (n:Nat),(a :: l).take (n + 1)=a :: l.take n)∧(∀ n:Nat,([]:List AV).take n=[])∧(∀ (l:List AV),[] ++ l=l)∧(∀ (l:List AV),l ++ []=l)∧(∀ (a:AV) (l m:List AV),(a :: l) ++ m=a :: (l ++ m)) ∧
    (∀ (cs:List AV) (off:Nat) (new:List AV),br cs off new=cs.take off ++ new ++ cs.drop (off + new.length))∧(([]:List AV).length=0)∧(∀ (a:AV) (l:List AV),(a :: l).length=l.length + 1) ∧
    (∀ (k:IntKind) (n:Int),(AV.int k n).cells=[.int k n])∧(∀ b:Bool,(AV.bool b).cells=[.bool b])∧(∀ s:ByteArray,(AV.str s).cells=[.str s])∧(∀ (k:Nat) (l:List AV),(AV.sl k l).cells=[.sl k l])∧(∀ l:List AV,(AV.agg l).cells=l)∧(AV.esl.cells=[.esl])∧(AV.nilf.cells=[.nilf]) ∧
    (∀ (f:FuncId) (c:List AV),(AV.func f c).cells=[.func f c])∧(∀ (b n off:Nat),(AV.ptr b n off).cells=[.ptr b n off])∧(∀ (c:List AV) (off:Nat),(AV.iptr c off).cells=[.iptr c off])∧(∀ (b n sz off len:Nat),(AV.msl b n sz off len).cells=[.msl b n sz off len])∧(∀ b:Nat,(AV.yld b).cells=[.yld b])∧(∀ b:Nat,(AV.mp b).cells=[.mp b])∧(AV.nilp.cells=[.nilp])∧(∀ (f:FuncId) (c:List AV),(AV.bfn f c).cells=[.bfn f c])) ∧
    ((∀ (b:Bool) (x y:AV),(match (AV.bool b:AV) with | .bool t=>some (if t=true then x else y) | _=>none)=some (if b=true then x else y))) :=
 ⟨AZ,SA,SV,SV2,SN,SR,SL,fun _ _ _=>rfl⟩
theorem ZV:((AV.ones []=true)∧(∀ (a:AV) (l:List AV),AV.ones (a :: l)=(a.one && AV.ones l))∧(∀ (k:IntKind) (n:Int),(AV.int k n).one=true)∧(∀ b:Bool,(AV.bool b).one=true)∧(∀ s:ByteArray,(AV.str s).one=true)∧(∀ (k:Nat) (l:List AV),(AV.sl k l).one=true)∧(AV.esl.one=true)∧(AV.nilf.one=true) ∧
    (∀ (f:FuncId) (c:List AV),(AV.func f c).one=true)∧(∀ (b n off:Nat),(AV.ptr b n off).one=true)∧(∀ (c:List AV) (off:Nat),(AV.iptr c off).one=true)∧(∀ (b n sz off len:Nat),(AV.msl b n sz off len).one=true)∧(∀ b:Nat,(AV.yld b).one=true)∧(∀ b:Nat,(AV.mp b).one=true)∧(AV.nilp.one=true)∧(∀ l:List AV,l.all AV.one=AV.ones l))∧(∀ l:List Int,(bg l).one=true)∧(∀ l:List (List Int),(bi l).one=true)∧(∀ b:Bool,(b && b)=b)∧((false=true)=False)∧(∀ a:Int,-9223372036854775808 ≤ a→a ≤ 9223372036854775807→IntKind.wrap .i64 a=a) ∧
    (∀ (l:List Int) (k:IntKind) (n:Int),cR 1 (bg l) (.int k n)=if 0 ≤ n∧n < l.length then some (.iptr [.int .i64 (l.getD n.toNat default)] 0) else none)∧(∀ (l:List (List Int)) (k:IntKind) (n:Int),cR 1 (bi l) (.int k n)=if 0 ≤ n∧n < l.length then some (.iptr [bg (l.getD n.toNat default)] 0) else none) ∧
    (∀ l:List Int,bE (bg l)=some (.int .i64 l.length))∧(∀ l:List (List Int),bE (bi l)=some (.int .i64 l.length))∧(∀ n:Nat,(n:Int).toNat=n)∧(∀ (α β:Type) (f:α→β) (l:List α),(l.map f).length=l.length) ∧
    (∀ (sz b m off len:Nat) (k:IntKind) (n:Int),cR sz (.msl b m sz off len) (.int k n)=if 0 ≤ n∧n < len then some (.ptr b m (off + n.toNat * sz)) else none)∧(∀ (α:Type) (_:Inhabited α) (f:α→AV) (l:List α) (k:Nat),k < l.length→(l.map f)[k]?=some (f (l.getD k default)))∧(∀ n:Nat,n * 1=n) :=
 ⟨SO,fun _=>rfl,fun _=>rfl,Bool.and_self,Bool.false_eq_true,fun _=>pP,fun _ _ _=>fy,fun _ _ _=>gd,fun _=>nG,fun _=>kX,Int.toNat_natCast,fun _ _ _ _=>List.length_map _,fun _ _ _ _ _ _ _=>wN,fun _ _ _ _ _ h=>getElem?_map_lt h,Nat.mul_one⟩
theorem ZG:((∀ (T:Tm) (n:Nat),ov T (.t n)=T n)∧(∀ (T:Tm) (v:AV),ov T (.c v)=v)∧(∀ (T:Tm) (d t:Nat) (v:AV),upd T d v t=if t=d then v else T t)∧(∀ (T:Tm) (d:Nat) (v:AV),aE T (some d) v=upd T d v) ∧
    (∀ (T:Tm) (v:AV),aE T none v=T)∧(∀ (x:AV) (l:List AV),T0 (x :: l) 0=x)∧(∀ (x:AV) (l:List AV) (n:Nat),T0 (x :: l) (n + 1)=T0 l n)∧(∀ n:Nat,T0 [] n=.undef) ∧
    (∀ (d t:Nat) (v:AV) (l:List (Nat × AV)),tl ((d,v) :: l) t=if t=d then v else tl l t)∧(∀ t:Nat,tl [] t=.undef) ∧
    (∀ (T:Tm) (t:Nat) (ts:List Nat) (x:AV) (xs:List AV),fA T (t :: ts) (x :: xs)=fA (upd T t x) ts xs)∧(∀ (T:Tm) (xs:List AV),fA T [] xs=T))∧(∀ a:Int,-9223372036854775808 ≤ a→a ≤ 9223372036854775807→IntKind.wrap .i64 a=a)∧(∀ a b:Nat,((a + b:Nat):Int)=(a:Int) + (b:Int))∧(((1:Nat):Int)=1)∧(((0:Nat):Int)=0)∧(∀ p:Prop,(p∧True)=p)∧(∀ p:Prop,(p∧p)=p) :=
 ⟨SA,fun _=>pP,Int.natCast_add,rfl,rfl,and_true,and_self⟩
end Go.Abs
namespace Go.Abs
theorem tQ {P:Program} {b:C2} {T:Tm} {H:Hp} {nx:Nat} {K:CP} (L:Nat→List (Nat × AV)) (n:Nat) (p:Nat→Prop) (hT:agr T (L 0))
    (step:∀ k,k ≤ n→(∀ i,i < k→p i)→aD P b (tl (L k)) H nx fun e T H' nx'=>aH e (k < n∧p k∧agr T (L (k + 1))∧H'=H∧nx'=nx) (K e T H' nx')):aP (aD P b) T H nx K:=by
 refine jH (X:=Nat) L (fun k=>k ≤ n∧∀ i,i < k→p i) (fun k=>n - k) 0 ⟨Nat.zero_le _,fun i h=>(by omega)⟩ hT ?_
 rintro k ⟨h1,h2⟩
 refine b6 b (step k h1 h2) (fun e T H' nx' h=>?_)
 cases e with
 | normal =>
  obtain ⟨g1,g2,g3,g4,g5⟩:=h
  refine ⟨k + 1,⟨by omega,fun i hi=>?_⟩,by omega,g3,g4,g5⟩
  rcases Nat.lt_succ_iff_lt_or_eq.1 hi with h | rfl
  ·exact h2 i h
  ·exact g2
 | exit i=>exact h
 | ret=>exact h
theorem jo {α:Type} [Inhabited α] {l:List α} {p:α→Bool} (h:∀ i,i < l.length→p (l.getD i default)=true):l.all p=true:=by
 rw [List.all_eq_true]
 intro x hx
 obtain ⟨i,hi,e⟩:=List.getElem_of_mem hx
 have:=h i hi
 rwa [show l.getD i default=x by simp [List.getD,hi,e]] at this
theorem ib {α:Type} [Inhabited α] {l:List α} {p:α→Bool} {k:Nat} (hk:k < l.length) (h:p (l.getD k default)=false):l.all p=false:=by
 rw [Bool.eq_false_iff,ne_eq,List.all_eq_true]
 intro hh
 have:=hh _ (aJ hk)
 rw [h] at this; cases this
theorem kL {α:Type} [Inhabited α] {l:List α} {p:α→Bool} (h:∀ i,i < l.length→p (l.getD i default)=false):l.any p=false:=by
 rw [List.any_eq_false]
 intro x hx
 obtain ⟨i,hi,e⟩:=List.getElem_of_mem hx
 have:=h i hi
 rw [show l.getD i default=x by simp [List.getD,hi,e]] at this
 simp [this]
theorem v6 {α:Type} [Inhabited α] [DecidableEq α] {l:List α} {v:α} {k:Nat} (hk:k < l.length) (h:l.getD k default=v):decide (v ∈ l)=true:=by
 rw [decide_eq_true_iff,← h]; exact aJ hk
theorem uz {α:Type} [Inhabited α] [DecidableEq α] {l:List α} {v:α} (h:∀ i,i < l.length→l.getD i default ≠ v):decide (v ∈ l)=false:=by
 rw [decide_eq_false_iff_not]
 intro hm
 obtain ⟨i,hi,e⟩:=List.getElem_of_mem hm
 exact h i hi (by simp [List.getD,hi,e])
def fg {α:Type} (sz:Nat) (f:α→AV) (l:List α):AV:=.sl sz (l.map f)
section
variable {α:Type} {sz:Nat} {f:α→AV} {l:List α}
theorem lY (h:∀ x ∈ l,∀ c ∈ (f x).cells,Dat c):Dat (fg sz f l):=Dat.sl (fun x hx c hc=>by
 obtain ⟨y,hy,rfl⟩:=List.mem_map.1 hx
 exact h y hy c hc)
theorem vh (hc:∀ x,(f x).cells=[f x]) (h:∀ x,Dat (f x)):Dat (fg sz f l):=lY (fun x _ c hx=>by
 rw [hc,List.mem_singleton] at hx; subst hx; exact h x)
theorem jS [Inhabited α] {k:IntKind} {n:Int}:cR sz (fg sz f l) (.int k n)=if 0 ≤ n∧n < l.length then some (.iptr (f (l.getD n.toNat default)).cells 0) else none:=mc
theorem iR:bE (fg sz f l)=some (.int .i64 l.length):=kw
theorem pN {k:Nat} (h:k ≤ l.length):ip sz (fg sz f l) none (some (.int .i64 k)) none=some (fg sz f (l.take k)):=by
 simp [ip,bc,fg,h]
theorem eF {k:Nat} (h:k ≤ l.length):ip sz (fg sz f l) (some (.int .i64 k)) none none=some (fg sz f (l.drop k)):=by
 simp [ip,bc,fg,h]
 rw [List.take_of_length_le (by simp)]
theorem Row.snapL' {H:Hp} {s:AV} (h:Row H 1 s (l.map f)) (hc:∀ x,(f x).cells=[f x]) (hd:∀ x ∈ l,Dat (f x)):Snap H s (fg 1 f l):=by
 refine Row.snap (elems:=l.map f) (by rw [fu hc]; exact h) (fun y hy=>?_) Nat.one_pos (fun y hy c hx=>?_)
 ·obtain ⟨n,_,rfl⟩:=List.mem_map.1 hy; rw [hc]; rfl
 ·obtain ⟨n,hn,rfl⟩:=List.mem_map.1 hy
  rw [hc,List.mem_singleton] at hx; subst hx; exact hd n hn
end
end Go.Abs
namespace Go.Abs
theorem fh {a:Int} (h1:0 ≤ a) (h2:a < 18446744073709551616):IntKind.wrap .u64 a=a:=by
 simp only [IntKind.wrap,IntKind.bits,IntKind.signed]; simp; omega
theorem nj {a:Int}:IntKind.wrap .u8 a=a % 256:=by
 simp only [IntKind.wrap,IntKind.bits,IntKind.signed]; simp
theorem pj {k:IntKind} {a b:Nat} {tb tf:Bool} {k':IntKind} (hb:b ≤ k.bits):aZ .shr tb tf (.int k a) (.int k' b)=some (.int k ((a / 2 ^ b:Nat):Int)):=by
 have h:¬ ((b:Int) < 0):=by omega
 simp only [aZ,kq,h,if_false,or_true,if_true,Int.toNat_natCast,Nat.min_eq_left hb]
 congr 2
 rw [Int.fdiv_eq_ediv_of_nonneg _ (Int.le_of_lt (Int.pow_pos (by omega)))]
 simp
theorem xG {k:IntKind} {a b:Nat} {tb tf:Bool} {k':IntKind} (hb:b ≤ k.bits) (h:a * 2 ^ b < 2 ^ (k.bits - 1)):aZ .shl tb tf (.int k a) (.int k' b)=some (.int k ((a * 2 ^ b:Nat):Int)):=by
 have h0:¬ ((b:Int) < 0):=by omega
 simp only [aZ,kq,h0,if_false,true_or,if_true,Int.toNat_natCast,Nat.min_eq_left hb]
 congr 2
 have e:(a:Int) * 2 ^ b=((a * 2 ^ b:Nat):Int):=by simp
 rw [e]
 generalize a * 2 ^ b=c at h
 cases k <;> (simp only [IntKind.bits,IntKind.wrap,IntKind.signed] at h ⊢; simp at h ⊢; omega)
theorem xq {k:IntKind} {a b:Int} {tb tf:Bool} (ha:0 ≤ a) (hb:0 < b):aZ .rem tb tf (.int k a) (.int k b)=some (.int k (a % b)):=by
 show (if (k=k) then cQ .rem k a b else none)=_
 rw [if_pos rfl]
 simp only [cQ,if_neg (show ¬ b=0 by omega),Int.tmod_eq_emod_of_nonneg ha]
theorem lN {a b:Int} {tb tf:Bool} (ha:0 ≤ a) (h2:a ≤ 9223372036854775807) (hb:0 < b):aZ .quo tb tf (.int .i64 a) (.int .i64 b)=some (.int .i64 (a / b)):=by
 show (if (IntKind.i64=IntKind.i64) then cQ .quo .i64 a b else none)=_
 rw [if_pos rfl]
 have h3:0 ≤ a / b:=Int.ediv_nonneg ha (by omega)
 have h4:a / b ≤ a:=Int.ediv_le_self _ ha
 simp only [cQ,if_neg (show ¬ b=0 by omega),Int.tdiv_eq_ediv_of_nonneg ha]
 rw [pP (by omega) (by omega)]
theorem aV {P:Program} {T:Tm} {H:Hp} {nx:Nat} {K:SP} {l:List Op2} {d:Option Nat} {f:Opd} {args:List Opd} {g:FuncId} {caps xs:List AV} {R:AV→Hp→Nat→Prop} (hf:ov T f=.func g caps) (ha:args.map (ov T) ++ caps=xs) (hc:Fn P g xs H nx R)
    (k:∀ r H' nx',R r H' nx'→aj P .text l (aE T d r) H' nx' K):aj P .text (⟨d,none,.call f args⟩ :: l) T H nx K:=by
 subst ha
 exact sw hf (Fn.mono hc k)
def zP (l:List UInt8):AV:=.str ⟨l.toArray⟩
theorem wA (l:List UInt8):Dat (zP l):=.str
instance datI_encS {l:List UInt8}:DatI (zP l):=⟨wA l⟩
end Go.Abs
namespace Go.Abs
open Go.RowKit
variable {P:Program} {T:Tm} {H:Hp} {nx:Nat}
theorem aI {a b:Prop} (x:a) (y:b):a∧b:=⟨x,y⟩
theorem ev0 {α:Type} {a b:α} (h:a=b:=by (try simp only [bR,ZA,Nat.reduceEqDiff,↓reduceIte,Nat.reduceAdd,Nat.reduceLeDiff]); (try with_reducible rfl); first | done | fail):a=b:=h
theorem evZ {α:Type} {a b:α} (h:a=b:=by (try simp only [bR,ZA,Nat.reduceEqDiff,↓reduceIte,Nat.reduceAdd,Nat.reduceLeDiff,zz]); (try with_reducible rfl); first | done | fail):a=b:=h
theorem evY {α:Type} {a b:α} (h:a=b:=by (try simp (disch:=omega) only [ci,ZA,Nat.reduceEqDiff,↓reduceIte,Nat.reduceAdd,Nat.reduceLeDiff,zz]); (try with_reducible rfl); first | done | fail):a=b:=h
theorem ag0 {T:Tm} {l:List (Nat × AV)} (h:agr T l:=by simp (disch:=omega) only [agr,ZG,Nat.reduceEqDiff,↓reduceIte]; first | done | fail):agr T l:=h
theorem agZ {T:Tm} {l:List (Nat × AV)} (h:agr T l:=by simp (disch:=omega) only [agr,ZG,Nat.reduceEqDiff,↓reduceIte,zz]; first | done | fail):agr T l:=h
theorem vZ {dm:DM} {K:SP} {l:List Op2} {d:Option Nat} {i:Ins} {r:AV} (k:aj P dm l (aE T d r) H nx K) (hi:ic i=.val:=by rfl) (hd:dm2 dm T i=true:=by rfl) (h:a8 T H i=some r:=by (try simp (disch:=omega) only [bR,ZA,Nat.reduceEqDiff,↓reduceIte,Nat.reduceAdd,Nat.reduceLeDiff,ZV,reduceCtorEq,zz]); first | with_reducible rfl | (apply wi; (focus omega); with_reducible rfl)):aj P dm (⟨d,none,i⟩ :: l) T H nx K:=iG hi hd h k
theorem cZ {dm:DM} {K:SP} {l:List Op2} {d:Option Nat} {f:Opd} {args:List Opd} {g:FuncId} {caps xs:List AV} {r:AV} (k:aj P dm l (aE T d r) H nx K) (hf:ov T f=.func g caps:=by (try simp only [bR,ZA,Nat.reduceEqDiff,↓reduceIte,Nat.reduceAdd,Nat.reduceLeDiff,zz]); (try with_reducible rfl); first | done | fail) (ha:args.map (ov T) ++ caps=xs:=by (try simp only [bR,ZA,Nat.reduceEqDiff,↓reduceIte,Nat.reduceAdd,Nat.reduceLeDiff,zz]); (try with_reducible rfl); first | done | fail) (hp:Pure P g xs r) (hs:av H xs xs r:=by (first | refine ac ?_ rfl | apply ag); (repeat' (first | exact aa | apply an | (apply ai; (focus with_reducible assumption)))); first | done | fail):aj P dm (⟨d,none,.call f args⟩ :: l) T H nx K:=tN hf ha hp hs k
theorem alZ {dm:DM} {K:SP} {l:List Op2} {d:Option Nat} {z:AV} {cs:List AV} (k:aj P dm l (aE T d (.ptr nx cs.length 0)) (aq H nx cs) (nx + 1) K) (hd:dm2 dm T (.alloc z)=true:=by rfl) (hc:z.cells=cs:=by (try simp only [bR,ZA,Nat.reduceEqDiff,↓reduceIte,Nat.reduceAdd,Nat.reduceLeDiff,zz]); (try with_reducible rfl); first | done | fail) (ho:AV.ones cs=true:=by simp only [SO,Bool.and_self,ee,dF,zz]; first | done | fail):aj P dm (⟨d,none,.alloc z⟩ :: l) T H nx K:=pm hd hc ho k
theorem bxZ {dm:DM} {K:SP} {l:List Op2} {d:Option Nat} {x:Opd} {v:AV} {cs:List AV} (k:aj P dm l (aE T d (.ptr nx cs.length 0)) (aq H nx cs) (nx + 1) K) (hd:dm2 dm T (.box x)=true:=by rfl) (hx:ov T x=v:=by (try simp only [bR,ZA,Nat.reduceEqDiff,↓reduceIte,Nat.reduceAdd,Nat.reduceLeDiff,zz]); (try with_reducible rfl); first | done | fail) (hc:v.cells=cs:=by (try simp only [bR,ZA,Nat.reduceEqDiff,↓reduceIte,Nat.reduceAdd,Nat.reduceLeDiff,zz]); (try with_reducible rfl); first | done | fail) (ho:AV.ones cs=true:=by simp only [SO,Bool.and_self,ee,dF,zz]; first | done | fail):aj P dm (⟨d,none,.box x⟩ :: l) T H nx K:=yq hd hx hc ho k
theorem stZ {dm:DM} {K:SP} {l:List Op2} {d:Option Nat} {sz:Nat} {p x:Opd} {b n off:Nat} {v:AV} {cs vs:List AV} (k:aj P dm l (aE T d (.tup [])) (aq H b (br cs off vs)) nx K) (hd:dm2 dm T (.st sz p x)=true:=by rfl) (hp:ov T p=.ptr b n off:=by (try simp only [bR,ZA,Nat.reduceEqDiff,↓reduceIte,Nat.reduceAdd,Nat.reduceLeDiff,zz]); (try with_reducible rfl); first | done | fail) (hx:ov T x=v:=by (try simp only [bR,ZA,Nat.reduceEqDiff,↓reduceIte,Nat.reduceAdd,Nat.reduceLeDiff,zz]); (try with_reducible rfl); first | done | fail) (hb:H b=some cs:=by (try simp only [bR,ZA,Nat.reduceEqDiff,↓reduceIte,Nat.reduceAdd,Nat.reduceLeDiff,zz]); (try with_reducible rfl); first | done | fail) (hc:v.cells=vs:=by (try simp only [bR,ZA,Nat.reduceEqDiff,↓reduceIte,Nat.reduceAdd,Nat.reduceLeDiff,zz]); (try with_reducible rfl); first | done | fail) (ho:AV.ones vs=true:=by simp only [SO,Bool.and_self,ee,dF,zz]; first | done | fail) (hn:cs.length=n:=by (try simp only [SL,Nat.reduceAdd,Nat.reduceMul,List.length_map]); first | done | omega) (hl:vs.length=sz:=by (try simp only [SL,Nat.reduceAdd,Nat.reduceMul,List.length_map]); first | done | omega) (hf:off + sz ≤ n:=by (try simp only [SL,Nat.reduceAdd,Nat.reduceMul,List.length_map]); first | done | omega):aj P dm (⟨d,none,.st sz p x⟩ :: l) T H nx K:=zf hd hp hx hb hc ho hn hl hf k
theorem blZ {dm:DM} {K:SP} {l:List Op2} {d:Option Nat} {sz len:Nat} {z:List AV} {parts:List (Nat × Nat × Opd)} {pv:List (Nat × Nat × AV)} {cs:List AV} (k:aj P dm l (aE T d (.msl nx cs.length sz 0 len)) (aq H nx cs) (nx + 1) K) (hd:dm2 dm T (.bldS sz len z parts)=true:=by rfl) (hl:len ≠ 0:=by exact Nat.succ_ne_zero _) (hp:parts.map (fun p=>(p.1,p.2.1,ov T p.2.2))=pv:=by (try simp only [bR,ZA,Nat.reduceEqDiff,↓reduceIte,Nat.reduceAdd,Nat.reduceLeDiff,zz]); (try with_reducible rfl); first | done | fail) (hc:cw (aY (.agg z) len) pv=some cs:=by (try simp only [bR,ZA,Nat.reduceEqDiff,↓reduceIte,Nat.reduceAdd,Nat.reduceLeDiff,SO,Bool.and_self,ee,dF,zz]); (try with_reducible rfl); first | done | fail):aj P dm (⟨d,none,.bldS sz len z parts⟩ :: l) T H nx K:=yj hd hl hp hc k
theorem gTZ {dm:DM} {K:SP} {l:List Op2} {d:Option Nat} {i:Ins} {t:Nat} {w:Bool} (k:aj P dm (⟨d,none,i⟩ :: l) T H nx K) (h:T t=.bool w:=by simp only [bR,ZA,Nat.reduceEqDiff,↓reduceIte,Nat.reduceAdd,Nat.reduceLeDiff,zz]; first | done | fail):aj P dm (⟨d,some (t,w),i⟩ :: l) T H nx K:=zd h k
theorem gFZ {dm:DM} {K:SP} {l:List Op2} {d:Option Nat} {i:Ins} {t:Nat} {w:Bool} (k:aj P dm l (aE T d (.tup [])) H nx K) (h:T t=.bool (!w) ∨ T t=.tup []:=by simp only [bR,ZA,Nat.reduceEqDiff,↓reduceIte,Nat.reduceAdd,Nat.reduceLeDiff,or_true,true_or,zz]; first | done | fail):aj P dm (⟨d,some (t,w),i⟩ :: l) T H nx K:=zy h k
theorem cTZ {K:CP} {c:Opd} {x y:C2} (h1:aD P x T H nx K) (hc:ov T c=.bool true:=by simp only [bR,ZA,Nat.reduceEqDiff,↓reduceIte,Nat.reduceAdd,Nat.reduceLeDiff,zz]; first | done | fail):aD P (.cond c x y) T H nx K:=tw hc h1
theorem cFZ {K:CP} {c:Opd} {x y:C2} (h2:aD P y T H nx K) (hc:ov T c=.bool false:=by simp only [bR,ZA,Nat.reduceEqDiff,↓reduceIte,Nat.reduceAdd,Nat.reduceLeDiff,zz]; first | done | fail):aD P (.cond c x y) T H nx K:=tO hc h2
theorem r1Z {K:AV→Prop} {a:RV} {x:AV} (h:K x) (ha:rv T H a=some x:=by simp only [rv,bR,ZA,Nat.reduceEqDiff,↓reduceIte,Nat.reduceAdd,Nat.reduceLeDiff,zz]; with_reducible rfl):bd T H K [a]:=r_1 ha h
theorem r2Z {K:AV→Prop} {a b:RV} {x y:AV} (h:K (.tup [x,y])) (ha:rv T H a=some x:=by simp only [rv,bR,ZA,Nat.reduceEqDiff,↓reduceIte,Nat.reduceAdd,Nat.reduceLeDiff,zz]; with_reducible rfl) (hb:rv T H b=some y:=by simp only [rv,bR,ZA,Nat.reduceEqDiff,↓reduceIte,Nat.reduceAdd,Nat.reduceLeDiff,zz]; with_reducible rfl):bd T H K [a,b]:=r_2 ha hb h
theorem vY {dm:DM} {K:SP} {l:List Op2} {d:Option Nat} {i:Ins} {r:AV} (k:aj P dm l (aE T d r) H nx K) (hi:ic i=.val:=by rfl) (hd:dm2 dm T i=true:=by first | rfl | (simp (disch:=omega) only [dm2,nO,qN,ci,ZA,Nat.reduceEqDiff,↓reduceIte,Nat.reduceAdd,Nat.reduceLeDiff,zz,decide_eq_true_eq]; first | done | omega)) (h:a8 T H i=some r:=by (try simp (disch:=omega) only [ci,ZA,Nat.reduceEqDiff,↓reduceIte,Nat.reduceAdd,Nat.reduceLeDiff,ZV,reduceCtorEq,zz]); first | with_reducible rfl | (apply wi; (focus omega); with_reducible rfl)):aj P dm (⟨d,none,i⟩ :: l) T H nx K:=iG hi hd h k
theorem nvY {S:Hp} {K:SP} {l:List (Op2 × Nat)} {d:Option Nat} {i:Ins} {r:AV} (k:a6 P S l (aE T d r) H nx K) (h:a8 T S i=some r:=by (try simp (disch:=omega) only [ci,ZA,Nat.reduceEqDiff,↓reduceIte,Nat.reduceAdd,Nat.reduceLeDiff,ZV,reduceCtorEq,zz]); first | with_reducible rfl | (apply wi; (focus omega); with_reducible rfl)):a6 P S ((⟨d,none,i⟩,0) :: l) T H nx K:=Aj h k
theorem cY {dm:DM} {K:SP} {l:List Op2} {d:Option Nat} {f:Opd} {args:List Opd} {g:FuncId} {caps xs:List AV} {r:AV} (k:aj P dm l (aE T d r) H nx K) (hf:ov T f=.func g caps:=by (try simp (disch:=omega) only [ci,ZA,Nat.reduceEqDiff,↓reduceIte,Nat.reduceAdd,Nat.reduceLeDiff,zz]); (try with_reducible rfl); first | done | fail) (ha:args.map (ov T) ++ caps=xs:=by (try simp (disch:=omega) only [ci,ZA,Nat.reduceEqDiff,↓reduceIte,Nat.reduceAdd,Nat.reduceLeDiff,zz]); (try with_reducible rfl); first | done | fail) (hp:Pure P g xs r) (hs:av H xs xs r:=by (first | refine ac ?_ rfl | apply ag); (repeat' (first | exact aa | apply an | (apply ai; (focus with_reducible assumption)))); first | done | fail):aj P dm (⟨d,none,.call f args⟩ :: l) T H nx K:=tN hf ha hp hs k
theorem alY {dm:DM} {K:SP} {l:List Op2} {d:Option Nat} {z:AV} {cs:List AV} (k:aj P dm l (aE T d (.ptr nx cs.length 0)) (aq H nx cs) (nx + 1) K) (hd:dm2 dm T (.alloc z)=true:=by first | rfl | (simp (disch:=omega) only [dm2,nO,qN,ci,ZA,Nat.reduceEqDiff,↓reduceIte,Nat.reduceAdd,Nat.reduceLeDiff,zz,decide_eq_true_eq]; first | done | omega)) (hc:z.cells=cs:=by (try simp (disch:=omega) only [ci,ZA,Nat.reduceEqDiff,↓reduceIte,Nat.reduceAdd,Nat.reduceLeDiff,zz]); (try with_reducible rfl); first | done | fail) (ho:AV.ones cs=true:=by simp (disch:=omega) only [SO,Bool.and_self,ee,dF,zz]; first | done | fail):aj P dm (⟨d,none,.alloc z⟩ :: l) T H nx K:=pm hd hc ho k
theorem bxY {dm:DM} {K:SP} {l:List Op2} {d:Option Nat} {x:Opd} {v:AV} {cs:List AV} (k:aj P dm l (aE T d (.ptr nx cs.length 0)) (aq H nx cs) (nx + 1) K) (hd:dm2 dm T (.box x)=true:=by first | rfl | (simp (disch:=omega) only [dm2,nO,qN,ci,ZA,Nat.reduceEqDiff,↓reduceIte,Nat.reduceAdd,Nat.reduceLeDiff,zz,decide_eq_true_eq]; first | done | omega)) (hx:ov T x=v:=by (try simp (disch:=omega) only [ci,ZA,Nat.reduceEqDiff,↓reduceIte,Nat.reduceAdd,Nat.reduceLeDiff,zz]); (try with_reducible rfl); first | done | fail) (hc:v.cells=cs:=by (try simp (disch:=omega) only [ci,ZA,Nat.reduceEqDiff,↓reduceIte,Nat.reduceAdd,Nat.reduceLeDiff,zz]); (try with_reducible rfl); first | done | fail) (ho:AV.ones cs=true:=by simp (disch:=omega) only [SO,Bool.and_self,ee,dF,zz]; first | done | fail):aj P dm (⟨d,none,.box x⟩ :: l) T H nx K:=yq hd hx hc ho k
theorem stY {dm:DM} {K:SP} {l:List Op2} {d:Option Nat} {sz:Nat} {p x:Opd} {b n off:Nat} {v:AV} {cs vs:List AV} (k:aj P dm l (aE T d (.tup [])) (aq H b (br cs off vs)) nx K) (hd:dm2 dm T (.st sz p x)=true:=by first | rfl | (simp (disch:=omega) only [dm2,nO,qN,ci,ZA,Nat.reduceEqDiff,↓reduceIte,Nat.reduceAdd,Nat.reduceLeDiff,zz,decide_eq_true_eq]; first | done | omega)) (hp:ov T p=.ptr b n off:=by (try simp (disch:=omega) only [ci,ZA,Nat.reduceEqDiff,↓reduceIte,Nat.reduceAdd,Nat.reduceLeDiff,zz]); (try with_reducible rfl); first | done | fail) (hx:ov T x=v:=by (try simp (disch:=omega) only [ci,ZA,Nat.reduceEqDiff,↓reduceIte,Nat.reduceAdd,Nat.reduceLeDiff,zz]); (try with_reducible rfl); first | done | fail) (hb:H b=some cs:=by (try simp (disch:=omega) only [ci,ZA,Nat.reduceEqDiff,↓reduceIte,Nat.reduceAdd,Nat.reduceLeDiff,zz]); (try with_reducible rfl); first | done | fail) (hc:v.cells=vs:=by (try simp (disch:=omega) only [ci,ZA,Nat.reduceEqDiff,↓reduceIte,Nat.reduceAdd,Nat.reduceLeDiff,zz]); (try with_reducible rfl); first | done | fail) (ho:AV.ones vs=true:=by simp (disch:=omega) only [SO,Bool.and_self,ee,dF,zz]; first | done | fail) (hn:cs.length=n:=by (try simp only [SL,Nat.reduceAdd,Nat.reduceMul,List.length_map]); first | done | omega) (hl:vs.length=sz:=by (try simp only [SL,Nat.reduceAdd,Nat.reduceMul,List.length_map]); first | done | omega) (hf:off + sz ≤ n:=by (try simp only [SL,Nat.reduceAdd,Nat.reduceMul,List.length_map]); first | done | omega):aj P dm (⟨d,none,.st sz p x⟩ :: l) T H nx K:=zf hd hp hx hb hc ho hn hl hf k
theorem blY {dm:DM} {K:SP} {l:List Op2} {d:Option Nat} {sz len:Nat} {z:List AV} {parts:List (Nat × Nat × Opd)} {pv:List (Nat × Nat × AV)} {cs:List AV} (k:aj P dm l (aE T d (.msl nx cs.length sz 0 len)) (aq H nx cs) (nx + 1) K) (hd:dm2 dm T (.bldS sz len z parts)=true:=by first | rfl | (simp (disch:=omega) only [dm2,nO,qN,ci,ZA,Nat.reduceEqDiff,↓reduceIte,Nat.reduceAdd,Nat.reduceLeDiff,zz,decide_eq_true_eq]; first | done | omega)) (hl:len ≠ 0:=by exact Nat.succ_ne_zero _) (hp:parts.map (fun p=>(p.1,p.2.1,ov T p.2.2))=pv:=by (try simp (disch:=omega) only [ci,ZA,Nat.reduceEqDiff,↓reduceIte,Nat.reduceAdd,Nat.reduceLeDiff,zz]); (try with_reducible rfl); first | done | fail) (hc:cw (aY (.agg z) len) pv=some cs:=by (try simp (disch:=omega) only [ci,ZA,Nat.reduceEqDiff,↓reduceIte,Nat.reduceAdd,Nat.reduceLeDiff,SO,Bool.and_self,ee,dF,zz]); (try with_reducible rfl); first | done | fail):aj P dm (⟨d,none,.bldS sz len z parts⟩ :: l) T H nx K:=yj hd hl hp hc k
theorem b0Y {dm:DM} {K:SP} {l:List Op2} {d:Option Nat} {sz:Nat} {z:List AV} (k:aj P dm l (aE T d .esl) H nx K) (hd:dm2 dm T (.bldS sz 0 z [])=true:=by first | rfl | (simp (disch:=omega) only [dm2,nO,qN,ci,ZA,Nat.reduceEqDiff,↓reduceIte,Nat.reduceAdd,Nat.reduceLeDiff,zz,decide_eq_true_eq]; first | done | omega)):aj P dm (⟨d,none,.bldS sz 0 z []⟩ :: l) T H nx K:=yV hd k
theorem gTY {dm:DM} {K:SP} {l:List Op2} {d:Option Nat} {i:Ins} {t:Nat} {w:Bool} (k:aj P dm (⟨d,none,i⟩ :: l) T H nx K) (h:T t=.bool w:=by simp (disch:=omega) only [ci,ZA,Nat.reduceEqDiff,↓reduceIte,Nat.reduceAdd,Nat.reduceLeDiff,zz]; first | done | fail):aj P dm (⟨d,some (t,w),i⟩ :: l) T H nx K:=zd h k
theorem gFY {dm:DM} {K:SP} {l:List Op2} {d:Option Nat} {i:Ins} {t:Nat} {w:Bool} (k:aj P dm l (aE T d (.tup [])) H nx K) (h:T t=.bool (!w) ∨ T t=.tup []:=by simp (disch:=omega) only [ci,ZA,Nat.reduceEqDiff,↓reduceIte,Nat.reduceAdd,Nat.reduceLeDiff,or_true,true_or,zz]; first | done | fail):aj P dm (⟨d,some (t,w),i⟩ :: l) T H nx K:=zy h k
theorem cTY {K:CP} {c:Opd} {x y:C2} (h1:aD P x T H nx K) (hc:ov T c=.bool true:=by simp (disch:=omega) only [ci,ZA,Nat.reduceEqDiff,↓reduceIte,Nat.reduceAdd,Nat.reduceLeDiff,zz]; first | done | fail):aD P (.cond c x y) T H nx K:=tw hc h1
theorem cFY {K:CP} {c:Opd} {x y:C2} (h2:aD P y T H nx K) (hc:ov T c=.bool false:=by simp (disch:=omega) only [ci,ZA,Nat.reduceEqDiff,↓reduceIte,Nat.reduceAdd,Nat.reduceLeDiff,zz]; first | done | fail):aD P (.cond c x y) T H nx K:=tO hc h2
theorem r1Y {K:AV→Prop} {a:RV} {x:AV} (h:K x) (ha:rv T H a=some x:=by simp (disch:=omega) only [rv,ci,ZA,Nat.reduceEqDiff,↓reduceIte,Nat.reduceAdd,Nat.reduceLeDiff,zz]; with_reducible rfl):bd T H K [a]:=r_1 ha h
theorem r2Y {K:AV→Prop} {a b:RV} {x y:AV} (h:K (.tup [x,y])) (ha:rv T H a=some x:=by simp (disch:=omega) only [rv,ci,ZA,Nat.reduceEqDiff,↓reduceIte,Nat.reduceAdd,Nat.reduceLeDiff,zz]; with_reducible rfl) (hb:rv T H b=some y:=by simp (disch:=omega) only [rv,ci,ZA,Nat.reduceEqDiff,↓reduceIte,Nat.reduceAdd,Nat.reduceLeDiff,zz]; with_reducible rfl):bd T H K [a,b]:=r_2 ha hb h
class StW (A:Prop) (B:outParam Prop):Prop where st:B→A
class StO (A:Prop) (B:outParam Prop):Prop where st:B→A
class StM (A:Prop) (B:outParam Prop):Prop where st:B→A
theorem zW {A B:Prop} [i:StW A B] (h:B):A:=i.st h
theorem zO {A B:Prop} [i:StO A B] (h:B):A:=i.st h
theorem zM {A B:Prop} [i:StM A B] (h:B):A:=i.st h
instance {K:CP} {x y:C2}:StW (aD P (.seq x y) T H nx K) (aD P x T H nx fun e T H nx=>aH e (aD P y T H nx K) (K e T H nx)):=⟨en⟩
instance {K:CP} {i:Nat} {b:C2}:StW (aD P (.block i b) T H nx K) (aD P b T H nx fun e T H nx=>K (iO i e) T H nx):=⟨f8⟩
instance {K:CP} {b:C2}:StW (aD P (.loop b) T H nx K) (aP (aD P b) T H nx K):=⟨yZ⟩
instance {K:CP}:StO (aD P .skip T H nx K) (K .normal T H nx):=⟨yY⟩
instance {K:CP} {i:Nat}:StO (aD P (.exit i) T H nx K) (K (.exit i) T H nx):=⟨y7⟩
instance {K:CP}:StO (aD P .ret T H nx K) (K .ret T H nx):=⟨Az⟩
instance {K:CP} {l:List Op2}:StO (aD P (.ops 0 l) T H nx K) (aj P .text l T H nx fun T H nx=>K .normal T H nx):=⟨yU⟩
instance {K:CP} {l:List Op2}:StO (aD P (.ops 1 l) T H nx K) (aj P .draw l T H nx fun T H nx=>K .normal T H nx):=⟨zo⟩
instance {K:CP} {l:List Op2}:StO (aD P (.ops 2 l) T H nx K) (aj P (.fresh nx) l T H nx fun T H nx=>K .normal T H nx):=⟨yO⟩
instance {K:CP} {l:List Op2} {C:List Nat}:StO (aD P (.mix 1 l C) T H nx K) (aj P .draw l T H nx fun T H nx=>K .normal T H nx):=⟨mH⟩
instance {K:CP} {l:List Op2} {C:List Nat}:StO (aD P (.mix 2 l C) T H nx K) (aj P (.fresh nx) l T H nx fun T H nx=>K .normal T H nx):=⟨mb⟩
instance {dm:DM} {K:SP}:StO (aj P dm [] T H nx K) (K T H nx):=⟨lg⟩
instance {S:Hp} {K:SP}:StO (a6 P S [] T H nx K) (K T H nx):=⟨yi⟩
instance {S:Hp} {K:SP} {l:List (Op2 × Nat)} {d:Option Nat} {i:Ins}:StO (a6 P S ((⟨d,none,i⟩,2) :: l) T H nx K) (aj P .text [⟨d,none,i⟩] T H nx fun T H nx=>a6 P S l T H nx K):=⟨gr⟩
instance {K:AV→Prop}:StO (bd T H K []) (K (.tup [])):=⟨r_0⟩
instance {K:CP} {l:List Op2} {C:List (Nat × Nat)}:StM (aD P (.mixS 1 l C) T H nx K) (aj P .draw l T H nx fun T H nx=>K .normal T H nx):=⟨xz⟩
instance {K:CP} {l:List Op2} {C:List (Nat × Nat)}:StM (aD P (.mixS 2 l C) T H nx K) (aj P (.fresh nx) l T H nx fun T H nx=>K .normal T H nx):=⟨xg⟩
class NZ (b w:Bool) (p q:outParam Prop):Prop where
 t:b=w→p
 f:b=!w→q
instance (priority:=10) {b:Bool}:NZ b true (b=true) (b=false):=⟨id,id⟩
instance (priority:=10) {b:Bool}:NZ b false (b=false) (b=true):=⟨id,id⟩
instance {p:Prop} {i:Decidable p}:NZ (decide p) true p (¬ p):=⟨of_decide_eq_true,of_decide_eq_false⟩
instance {p:Prop} {i:Decidable p}:NZ (decide p) false (¬ p) p:=⟨of_decide_eq_false,of_decide_eq_true⟩
instance (priority:=2000):NZ true true True False:=⟨fun _=>trivial,fun h=>by cases h⟩
instance (priority:=2000):NZ true false False True:=⟨fun h=>(by cases h),fun _=>trivial⟩
instance (priority:=2000):NZ false true False True:=⟨fun h=>(by cases h),fun _=>trivial⟩
instance (priority:=2000):NZ false false True False:=⟨fun _=>trivial,fun h=>by cases h⟩
instance (priority:=2000) {i:Decidable True}:NZ (decide True) true True False:=⟨fun _=>trivial,fun h=>of_decide_eq_false h trivial⟩
instance (priority:=2000) {i:Decidable True}:NZ (decide True) false False True:=⟨fun h=>of_decide_eq_false h trivial,fun _=>trivial⟩
instance (priority:=2000) {i:Decidable False}:NZ (decide False) true False True:=⟨of_decide_eq_true,fun _=>trivial⟩
instance (priority:=2000) {i:Decidable False}:NZ (decide False) false True False:=⟨fun _=>trivial,of_decide_eq_true⟩
instance {b w:Bool} {p q:Prop} [i:NZ b w p q]:NZ (!b) w q p:=⟨fun h=>i.f (by cases b <;> cases w <;> simp_all),fun h=>i.t (by cases b <;> cases w <;> simp_all)⟩
class StG (A:Prop) (v:outParam AV) (w:outParam Bool) (B C:outParam Prop):Prop where
 st:∀ b:Bool,v=.bool b→(b=w→B)→(b=!w→C)→A
instance {K:CP} {c:Opd} {x y:C2}:StG (aD P (.cond c x y) T H nx K) (ov T c) true (aD P x T H nx K) (aD P y T H nx K):=⟨fun _ h k1 k2=>rW h k1 k2⟩
instance {dm:DM} {K:SP} {l:List Op2} {d:Option Nat} {i:Ins} {t:Nat}:StG (aj P dm (⟨d,some (t,true),i⟩ :: l) T H nx K) (T t) true (aj P dm (⟨d,none,i⟩ :: l) (upd T t (.bool true)) H nx K) (aj P dm l (aE (upd T t (.bool false)) d (.tup [])) H nx K):=⟨fun _ h k1 k2=>Ay h k1 k2⟩
instance {dm:DM} {K:SP} {l:List Op2} {d:Option Nat} {i:Ins} {t:Nat}:StG (aj P dm (⟨d,some (t,false),i⟩ :: l) T H nx K) (T t) false (aj P dm (⟨d,none,i⟩ :: l) (upd T t (.bool false)) H nx K) (aj P dm l (aE (upd T t (.bool true)) d (.tup [])) H nx K):=⟨fun _ h k1 k2=>Ay h k1 k2⟩
theorem zGZ {A:Prop} {v:AV} {w b:Bool} {B C p q:Prop} [i:StG A v w B C] [n:NZ b w p q] (k1:p→B) (k2:q→C) (h:v=.bool b:=by (try simp only [bR,ZA,Nat.reduceEqDiff,↓reduceIte,Nat.reduceAdd,Nat.reduceLeDiff,zz]); (try with_reducible rfl); first | done | fail):A:=i.st b h (fun h=>k1 (n.t h)) (fun h=>k2 (n.f h))
theorem zGY {A:Prop} {v:AV} {w b:Bool} {B C p q:Prop} [i:StG A v w B C] [n:NZ b w p q] (k1:p→B) (k2:q→C) (h:v=.bool b:=by (try simp (disch:=omega) only [ci,ZA,Nat.reduceEqDiff,↓reduceIte,Nat.reduceAdd,Nat.reduceLeDiff,zz]); (try with_reducible rfl); first | done | fail):A:=i.st b h (fun h=>k1 (n.t h)) (fun h=>k2 (n.f h))
end Go.Abs
namespace Go.Abs
open Go.RowKit
inductive PT (α:Type) where
 | leaf
 | node (v:Option α) (l r:PT α)
def PT.get {α:Type}:PT α→Nat→Option α
 | .leaf,_=>none
 | .node v l r,n=>match n with
  | 0=>v
  | n + 1=>match n % 2 with
   | 0=>l.get (n / 2)
   | _ + 1=>r.get (n / 2)
def PT.set {α:Type}:Nat→PT α→Nat→Option α→Option (PT α)
 | 0,_,_,_=>none
 | k + 1,t,n,x=>match t with
  | .leaf=>match n with
   | 0=>some (.node x .leaf .leaf)
   | n + 1=>match n % 2 with
    | 0=>match PT.set k .leaf (n / 2) x with
     | some l=>some (.node none l .leaf)
     | none=>none
    | _ + 1=>match PT.set k .leaf (n / 2) x with
     | some r=>some (.node none .leaf r)
     | none=>none
  | .node v l r=>match n with
   | 0=>some (.node x l r)
   | n + 1=>match n % 2 with
    | 0=>match PT.set k l (n / 2) x with
     | some l=>some (.node v l r)
     | none=>none
    | _ + 1=>match PT.set k r (n / 2) x with
     | some r=>some (.node v l r)
     | none=>none
inductive BC where
 | cells (cs:List AV)
 | mark (e:Option AEx)
abbrev TT:=PT AV
abbrev HT:=PT BC
abbrev LV:=Nat→Option AEx→List AV
def bcL (L:LV) (n:Nat):Option BC→Option (List AV)
 | some (.cells cs)=>some cs
 | some (.mark e)=>some (L n e)
 | none=>none
def bc0:Option BC→Option (List AV)
 | some (.cells cs)=>some cs
 | _=>none
def toT (t:TT):Tm:=fun n=>(t.get n).getD .undef
def toH (L:LV) (t:HT):Hp:=fun n=>bcL L n (t.get n)
def d6 (t:HT):Hp:=fun n=>bc0 (t.get n)
def LIM:Nat:=24
def stT (T:TT) (d:Option Nat) (v:AV):Option TT:=match d with
 | none=>some T
 | some d=>PT.set LIM T d (some v)
def mj:Nat→List AV→TT→Option TT
 | _,[],T=>some T
 | i,x :: l,T=>match PT.set LIM T i (some x) with
  | some T=>mj (i + 1) l T
  | none=>none
def y9 (l:List AV):Option TT:=mj 0 l .leaf
def frN {α:Type} (n:Nat) (K:Nat→α):α:=match n with
 | 0=>K 0
 | m + 1=>K (m + 1)
def frI {α:Type} (n:Int) (K:Int→α):α:=match n with
 | .ofNat m=>frN m fun m=>K (.ofNat m)
 | .negSucc m=>frN m fun m=>K (.negSucc m)
def frV {α:Type} (x:AV) (K:AV→α):α:=match x with
 | .int k n=>frI n fun n=>K (.int k n)
 | .ptr b n off=>frN b fun b=>frN n fun n=>frN off fun off=>K (.ptr b n off)
 | .msl b n sz off len=>frN b fun b=>frN n fun n=>frN sz fun sz=>frN off fun off=>frN len fun len=>K (.msl b n sz off len)
 | x=>K x
def frL {α:Type}:List AV→(List AV→α)→α
 | [],K=>K []
 | x :: l,K=>frV x fun x=>frL l fun l=>K (x :: l)
def touch (T:Tm) (nx:Nat):Ins→Option Nat
 | .alloc _=>some nx
 | .box _=>some nx
 | .bldS _ len _ _=>if len=0 then none else some nx
 | .mks ..=>some nx
 | .st _ p _=>match ov T p with
  | .ptr b _ _=>some b
  | _=>none
 | .app _ _ s _=>match ov T s with
  | .esl=>some nx
  | .msl b _ _ _ _=>some b
  | _=>none
 | .apz ..=>some nx
 | _=>none
def BU (T:TT) (H:HT) (nx:Nat) (i:Ins):Option (AV × HT × Nat) :=
 match eY (toT T) (d6 H) nx i with
 | none=>none
 | some (r,H',nx')=>match touch (toT T) nx i with
  | none=>some (r,H,nx')
  | some b=>match H' b with
   | none=>none
   | some cs=>frL cs fun cs=>match PT.set LIM H b (some (.cells cs)) with
    | some H2=>some (r,H2,nx')
    | none=>none
def tt:List AV→Option (List UInt8)
 | []=>some []
 | .int .u8 n :: l=>if 0 ≤ n∧n.toNat < 256 then (match tt l with | some bs=>some (UInt8.ofNat n.toNat :: bs) | none=>none) else none
 | _ :: _=>none
def rsp (T:Tm) (H:HT) (nx:Nat):Ins→Option (AV × HT × Nat)
 | .mkm h=>match h with
  | none=>match PT.set LIM H nx (some (.cells [.omap [] []])) with
   | some H'=>some (.mp nx,H',nx + 1)
   | none=>none
  | some x=>match ov T x with
   | .int _ _=>match PT.set LIM H nx (some (.cells [.omap [] []])) with
    | some H'=>some (.mp nx,H',nx + 1)
    | none=>none
   | _=>none
 | .mput k m key x=>match ov T m with
  | .mp b=>match H.get b with
   | some (.cells [.omap ks vs])=>if eJ k (ov T key)=true then match bG k (ov T key) ks with
       | some r=>frL (bx (ov T key) r ks) fun ks=>frL (dI (ov T x) r vs) fun vs=>match PT.set LIM H b (some (.cells [.omap ks vs])) with
        | some H'=>some (.tup [],H',nx)
        | none=>none
       | none=>none
    else none
   | _=>none
  | _=>none
 | .mget k z ok m key=>match ov T m with
  | .mp b=>match H.get b with
   | some (.cells [.omap ks vs])=>if eJ k (ov T key)=true then match bG k (ov T key) ks with
       | some r=>some (Go.Abs.mget z ok r vs,H,nx)
       | none=>none
    else none
   | _=>none
  | _=>none
 | .mplc k z m key=>match ov T m with
  | .mp b=>match H.get b with
   | some (.cells [.omap ks vs])=>if eJ k (ov T key)=true then match bG k (ov T key) ks with
       | some r=>frL (bx (ov T key) r ks) fun ks'=>frL (gz z r vs) fun vs'=>match PT.set LIM H b (some (.cells [.omap ks' vs'])) with
        | some H'=>some (.tup [rQ z r vs,.int .i64 (qz r ks)],H',nx)
        | none=>none
       | none=>none
    else none
   | _=>none
  | _=>none
 | .mpst m s x=>match ov T m with
  | .mp b=>match H.get b with
   | some (.cells [.omap ks vs])=>match ov T s with
    | .int .i64 (.ofNat i)=>if i < ks.length then frL (vs.set i (ov T x)) fun vs'=>match PT.set LIM H b (some (.cells [.omap ks vs'])) with
     | some H'=>some (.tup [],H',nx)
     | none=>none
     else none
    | _=>none
   | _=>none
  | _=>none
 | .mlen m=>match ov T m with
  | .mp b=>match H.get b with
   | some (.cells [.omap ks vs])=>some (.int .i64 ks.length,H,nx)
   | _=>none
  | _=>none
 | .cpy sz d s=>match kV sz (ov T d) (ov T s) (d6 H) with
  | none=>none
  | some (n,H')=>match n with
   | 0=>some (.int .i64 (0:Nat),H,nx)
   | n + 1=>match ov T d with
    | .msl b _ _ _ _=>match H' b with
     | some cs=>frL cs fun cs=>match PT.set LIM H b (some (.cells cs)) with
      | some H2=>some (.int .i64 (n + 1:Nat),H2,nx)
      | none=>none
     | none=>none
    | _=>none
 | .clr sz z x=>match p8 sz z (ov T x) (d6 H) with
  | none=>none
  | some H'=>match ov T x with
   | .msl b _ _ _ 0=>some (.tup [],H,nx)
   | .msl b _ _ _ (_ + 1)=>match H' b with
    | some cs=>frL cs fun cs=>match PT.set LIM H b (some (.cells cs)) with
     | some H2=>some (.tup [],H2,nx)
     | none=>none
    | none=>none
   | _=>none
 | .slp len sz x=>match ov T x with
  | .ptr b n off=>match H.get b with
   | some (.cells cs)=>if cs.length=n∧off + len * sz=n then some (.msl b n sz off len,H,nx) else none
   | _=>none
  | _=>none
 | .snil neg x=>match dP (ov T x) with
  | some (k + 1)=>some (.bool neg,H,nx)
  | _=>none
 | .s2b x=>match ov T x with
  | .str bs=>if bs.size=0 then some (.sl 1 [],H,nx) else frL (bs.data.toList.map jC) fun cs=>match PT.set LIM H nx (some (.cells cs)) with
   | some H'=>some (.msl nx bs.size 1 0 bs.size,H',nx + 1)
   | none=>none
  | _=>none
 | .b2s x=>match dl 1 (d6 H) (ov T x) with
  | some (n,l)=>match tt l with
   | some bs=>some (.str ⟨bs.toArray⟩,H,nx)
   | none=>none
  | none=>none
 | _=>none
def b5 (f:AV→Option AV):List AV→Option (List AV)
 | []=>some []
 | x :: l=>match f x with
  | some y=>match b5 f l with
   | some m=>some (y :: m)
   | none=>none
  | none=>none
def mkE:List AV→AV
 | [.agg a]=>.agg [.agg a]
 | [c]=>c
 | cs=>.agg cs
def wX (sz:Nat):Nat→List AV→List AV
 | 0,_=>[]
 | n + 1,ds=>mkE (ds.take sz) :: wX sz n (ds.drop sz)
def AC (f:AV→Option AV):AV→Option AV
 | .agg cs=>match b5 f cs with
  | some ds=>some (.agg ds)
  | none=>none
 | x=>match f x with
  | some (.agg _)=>none
  | some y=>some y
  | none=>none
def snapV (H:Hp):Nat→AV→Option AV
 | 0,_=>none
 | k + 1,x=>match x with
  | .bool b=>some (.bool b)
  | .int k n=>some (.int k n)
  | .str s=>some (.str s)
  | .nilp=>some .nilp
  | .nilf=>some .nilf
  | .nilm=>some .nilm
  | .esl=>some .esl
  | .sl sz l=>match b5 (AC (snapV H k)) l with
   | some m=>some (.sl sz m)
   | none=>none
  | .msl b n sz off len=>match len with
   | 0=>some (.sl sz [])
   | len + 1=>match H b with
    | some cs=>if cs.length=n∧off + (len + 1) * sz ≤ n then match b5 (snapV H k) ((cs.drop off).take ((len + 1) * sz)) with
        | some ds=>some (.sl sz (wX sz (len + 1) ds))
        | none=>none
     else none
    | none=>none
  | .ptr b n off=>match H b with
   | some cs=>if cs.length=n then match b5 (snapV H k) cs with
       | some ds=>some (.iptr ds off)
       | none=>none
    else none
   | none=>none
  | .iptr cs off=>match b5 (snapV H k) cs with
   | some ds=>some (.iptr ds off)
   | none=>none
  | .func f cs=>match b5 (snapV H k) cs with
   | some ds=>some (.func f ds)
   | none=>none
  | .agg cs=>match b5 (snapV H k) cs with
   | some ds=>some (.agg ds)
   | none=>none
  | .tup cs=>match b5 (snapV H k) cs with
   | some ds=>some (.tup ds)
   | none=>none
  | _=>none
theorem Snap.self {H H':Hp} {x y:AV} (h:Snap H x y):Snap H' y y:=by
 induction h with
 | bool b=>exact .bool _
 | int k n=>exact .int _ _
 | str s=>exact .str _
 | nilp=>exact .nilp
 | nilf=>exact .nilf
 | nilm=>exact .nilm
 | esl=>exact .esl
 | eslsl sz=>exact .slnil _ _
 | sl sz l l' hl hc h ih =>
  refine .sl sz l' l' rfl (fun i x y hx hy=>by rw [hx] at hy; cases hy; rfl) (fun i j x y a b hx hy ha hb=>?_)
  rw [hx] at hy; cases hy
  rw [ha] at hb; cases hb
  have hlt:i < l.length:=by rw [hl]; exact (List.getElem?_eq_some_iff.1 hx).1
  have hz:l[i]?=some l[i]:=by simp [hlt]
  have hcl:=hc i _ _ hz hx
  have hj:j < l[i].cells.length:=by rw [← hcl]; exact (List.getElem?_eq_some_iff.1 ha).1
  exact ih i j l[i] x l[i].cells[j] a hz hx (by simp [hj]) ha
 | slnil sz sz'=>exact .slnil _ _
 | msl b n sz off len cs l' hb hn hfit hl hc h ih =>
  refine .sl sz l' l' rfl (fun i x y hx hy=>by rw [hx] at hy; cases hy; rfl) (fun i j x y a c hx hy ha hc'=>?_)
  rw [hx] at hy; cases hy
  rw [ha] at hc'; cases hc'
  have hi:i < len:=by rw [← hl]; exact (List.getElem?_eq_some_iff.1 hx).1
  have hj:j < sz:=by rw [← hc x (List.mem_of_getElem? hx)]; exact (List.getElem?_eq_some_iff.1 ha).1
  have hlt:off + i * sz + j < cs.length:=by
   have:(i + 1) * sz ≤ len * sz:=Nat.mul_le_mul_right _ hi
   rw [Nat.add_mul] at this; omega
  exact ih i j x cs[off + i * sz + j] a hx ha (by simp [hlt])
 | mslnil b n sz off sz'=>exact .slnil _ _
 | ptr b n off cs cs' hb hn hl h ih =>
  refine .iptr cs' cs' off rfl (fun i a c ha hc=>?_)
  rw [ha] at hc; cases hc
  have hlt:i < cs.length:=by rw [hn,← hl]; exact (List.getElem?_eq_some_iff.1 ha).1
  exact ih i cs[i] a (by simp [hlt]) ha
 | iptr cs cs' off hl h ih =>
  refine .iptr cs' cs' off rfl (fun i a c ha hc=>?_)
  rw [ha] at hc; cases hc
  have hlt:i < cs.length:=by rw [← hl]; exact (List.getElem?_eq_some_iff.1 ha).1
  exact ih i cs[i] a (by simp [hlt]) ha
 | func f cs cs' hl h ih =>
  refine .func f cs' cs' rfl (fun i a c ha hc=>?_)
  rw [ha] at hc; cases hc
  have hlt:i < cs.length:=by rw [← hl]; exact (List.getElem?_eq_some_iff.1 ha).1
  exact ih i cs[i] a (by simp [hlt]) ha
 | agg cs cs' hl h ih =>
  refine .agg cs' cs' rfl (fun i a c ha hc=>?_)
  rw [ha] at hc; cases hc
  have hlt:i < cs.length:=by rw [← hl]; exact (List.getElem?_eq_some_iff.1 ha).1
  exact ih i cs[i] a (by simp [hlt]) ha
 | tup cs cs' hl h ih =>
  refine .tup cs' cs' rfl (fun i a c ha hc=>?_)
  rw [ha] at hc; cases hc
  have hlt:i < cs.length:=by rw [← hl]; exact (List.getElem?_eq_some_iff.1 ha).1
  exact ih i cs[i] a (by simp [hlt]) ha
theorem Fn.of_pureZ {P:Program} {f:FuncId} {args args':List AV} {r:AV} (hp:Pure P f args' r) {H Hf H':Hp} {nx:Nat} (hsub:∀ b cs,Hf b=some cs→H b=some cs) (hH:∀ b cs,H' b=some cs→H b=some cs∧Hf b=none) (hs:aF Hf args args')
    {R:AV→Hp→Nat→Prop} (hR:R r H' nx):Fn P f args H nx R:=by
 refine ⟨hp.1,fun E w vs hE hh hfr hv=>?_⟩
 have hsim:Sim E { n:=vs.length } ⟨T0 args,H,nx⟩ { tmps:=vs.toArray,defers:=[] } w:=by
  refine ⟨hE,hh,hfr,fun l hl=>(by cases hl),Nat.zero_le _,by simp,fun t=>?_,⟨List.Pairwise.nil,fun d hd=>(by cases hd)⟩⟩
  show Rel E w (T0 args t) (vs.toArray.getD t Go.undef)
  by_cases ht:t < args.length
  ·have h1:args[t]?=some args[t]:=by simp [ht]
   have h2:vs[t]?=some (vs[t]'(by rw [hv.1]; exact ht)):=by simp [hv.1,ht]
   have:=hv.2 t _ _ h1 h2
   have e1:T0 args t=args[t]:=by simp [T0,List.getD,ht]
   have e2:vs.toArray.getD t Go.undef=vs[t]'(by rw [hv.1]; exact ht):=by simp [Array.getD,hv.1,ht]
   rw [e1,e2]; exact this
  ·have e1:T0 args t=.undef:=by simp [T0,List.getD,ht]
   rw [e1]; exact .undef _
 have hg:Gh (T0 args) H nx (T0 args') H' nx Hf:=by
  refine ⟨hsub,Nat.le_refl _,fun b cs' hb=>?_,fun t=>?_⟩
  ·obtain ⟨h1,h2⟩:=hH b cs' hb
   exact .inl ⟨cs',h1,h2,rfl,fun i x x' hx hx'=>.inl (by rw [hx] at hx'; cases hx'; rfl)⟩
  ·by_cases ht:t < args.length
   ·have h1:args[t]?=some args[t]:=by simp [ht]
    have h2:args'[t]?=some (args'[t]'(by rw [hs.1]; exact ht)):=by simp [hs.1,ht]
    have:=hs.2 t _ _ h1 h2
    have e1:T0 args t=args[t]:=by simp [T0,List.getD,ht]
    have e2:T0 args' t=args'[t]'(by rw [hs.1]; exact ht):=by simp [T0,List.getD,hs.1,ht]
    right; right; left
    rw [e1,e2]; exact this
   ·left
    simp [T0,List.getD,hs.1,ht]
 obtain ⟨E',he,hsim'⟩:=hsim.ghost hg
 have hself:aF bk args' args':=⟨rfl,fun i x y hx hy=>by
  rw [hx] at hy; cases hy
  have hlt:i < args.length:=by rw [← hs.1]; exact (List.getElem?_eq_some_iff.1 hx).1
  exact (hs.2 i args[i] x (by simp [hlt]) hx).self⟩
 have hv':bO E' w args' vs:=by
  refine ⟨by rw [hv.1,hs.1],fun i x v hx hvi=>?_⟩
  have hlt:i < vs.length:=(List.getElem?_eq_some_iff.1 hvi).1
  have hla:i < args'.length:=(List.getElem?_eq_some_iff.1 hx).1
  have:=hsim'.tmps i
  have e1:T0 args' i=x:=by
   have:=(List.getElem?_eq_some_iff.1 hx).2
   simp [T0,List.getD,hx]
  have e2:vs.toArray.getD i Go.undef=v:=by
   have:=(List.getElem?_eq_some_iff.1 hvi).2
   simp [Array.getD,hlt,this]
  simp only at this
  rw [e1,e2] at this
  exact this
 refine ((Fn.of_pure hp (.inl hself) (H:=H') (nx:=nx) (R:=R) hR).2 E' w vs hsim'.env hsim'.heap hsim'.fresh hv').mono ?_
 rintro e w' ⟨v,E2,r2,H2,nx2,k1,k2,k3,k4,k5,k6,k7⟩
 exact ⟨v,E2,r2,H2,nx2,k1,he.trans k2,k3,k4,k5,k6,k7⟩
def iZ (H:Hp):Nat→AV→Option AV
 | 0,_=>none
 | k + 1,x=>match x with
  | .bool b=>some (.bool b)
  | .int k n=>some (.int k n)
  | .str s=>some (.str s)
  | .nilp=>some .nilp
  | .nilf=>some .nilf
  | .nilm=>some .nilm
  | .esl=>some .esl
  | .sl sz l=>match l with
   | []=>some (.sl sz [])
   | _ :: _=>none
  | .msl b n sz off len=>match len with
   | 0=>some (.sl sz [])
   | len + 1=>match H b with
    | some cs=>if cs.length=n∧off + (len + 1) * sz ≤ n then match b5 (iZ H k) ((cs.drop off).take ((len + 1) * sz)) with
        | some ds=>some (.sl sz (wX sz (len + 1) ds))
        | none=>none
     else none
    | none=>none
  | .ptr b n off=>match H b with
   | some cs=>if cs.length=n then match b5 (iZ H k) cs with
       | some ds=>some (.iptr ds off)
       | none=>none
    else none
   | none=>none
  | .func f cs=>match b5 (iZ H k) cs with
   | some ds=>some (.func f ds)
   | none=>none
  | .agg cs=>match b5 (iZ H k) cs with
   | some ds=>some (.agg ds)
   | none=>none
  | .tup cs=>match b5 (iZ H k) cs with
   | some ds=>some (.tup ds)
   | none=>none
  | _=>none
end Go.Abs
namespace Go.Abs
open Go.RowKit
def SF:Nat:=40
abbrev CL:=FuncId→List AV→HT→Nat→Option (AV × HT × Nat)
abbrev PC:=FuncId→List AV→HT→Option AV
def AI (cl:CL) (pc:PC) (yl:CL) (dm:DM) (i:Ins) (T:TT) (H:HT) (nx:Nat):Option (AV × HT × Nat) :=
 match ic i with
 | .val=>match dm2 dm (toT T) i with
  | true=>match a8 (toT T) (d6 H) i with
   | some r=>some (r,H,nx)
   | none=>none
  | false=>none
 | .eff=>match dm2 dm (toT T) i with
  | true=>BU T H nx i
  | false=>none
 | .call=>match i with
  | .call f args=>match ov (toT T) f with
   | .func g caps=>match dm.isText with
    | true=>cl g (args.map (ov (toT T)) ++ caps) H nx
    | false=>match pc g (args.map (ov (toT T)) ++ caps) H with
     | some r=>some (r,H,nx)
     | none=>none
   | .bfn g fs=>match dm.isText with
    | true=>cl g (fs ++ args.map (ov (toT T))) H nx
    | false=>none
   | .yld b=>match dm.isText with
    | true=>yl b (args.map (ov (toT T))) H nx
    | false=>none
   | _=>none
  | _=>none
 | .sp=>match dm.isText with
  | true=>rsp (toT T) H nx i
  | false=>none
def rZ (cl:CL) (pc:PC) (yl:CL) (dm:DM):List Op2→TT→HT→Nat→Option (TT × HT × Nat)
 | [],T,H,nx=>some (T,H,nx)
 | o :: l,T,H,nx=>match g2 (toT T) o.g with
  | none=>none
  | some false=>match stT T o.d (.tup []) with
   | some T=>rZ cl pc yl dm l T H nx
   | none=>none
  | some true=>match AI cl pc yl dm o.i T H nx with
   | none=>none
   | some (r,H,nx)=>frV r fun r=>match stT T o.d r with
    | some T=>rZ cl pc yl dm l T H nx
    | none=>none
structure CLok (P:Program) (L:LV) (cl:CL) (pc:PC) (yl:CL):Prop where
 cl:∀ {g:FuncId} {args:List AV} {H H':HT} {nx nx':Nat} {r:AV} {R:AV→Hp→Nat→Prop},cl g args H nx=some (r,H',nx')→R r (toH L H') nx'→Fn P g args (toH L H) nx R
 pc:∀ {g:FuncId} {args:List AV} {H:HT} {r:AV},pc g args H=some r→i5 P g args (toH L H) r
 yl:∀ {g:Nat} {args:List AV} {H H':HT} {nx nx':Nat} {r:AV} {R:AV→Hp→Nat→Prop},yl g args H nx=some (r,H',nx')→R r (toH L H') nx'→Yl P g args (toH L H) nx R
def mC (f:AV→AV→Bool):List AV→List AV→Bool
 | [],[]=>true
 | x :: l,y :: m=>match f x y with
  | true=>mC f l m
  | false=>false
 | _,_=>false
def vo:Nat→AV→AV→Bool
 | 0,_,_=>false
 | k + 1,x,y=>match x with
  | .undef=>match y with
   | .undef=>true
   | _=>false
  | .bool a=>match y with
   | .bool b=>decide (a=b)
   | _=>false
  | .int j a=>match y with
   | .int i b=>decide (j=i) && decide (a=b)
   | _=>false
  | .str a=>match y with
   | .str b=>decide (a=b)
   | _=>false
  | .nilp=>match y with
   | .nilp=>true
   | _=>false
  | .nilf=>match y with
   | .nilf=>true
   | _=>false
  | .nilm=>match y with
   | .nilm=>true
   | _=>false
  | .esl=>match y with
   | .esl=>true
   | _=>false
  | .ptr b n o=>match y with
   | .ptr b' n' o'=>Nat.beq b b' && Nat.beq n n' && Nat.beq o o'
   | _=>false
  | .msl b n s o l=>match y with
   | .msl b' n' s' o' l'=>Nat.beq b b' && Nat.beq n n' && Nat.beq s s' && Nat.beq o o' && Nat.beq l l'
   | _=>false
  | .mp b=>match y with
   | .mp b'=>Nat.beq b b'
   | _=>false
  | .yld b=>match y with
   | .yld b'=>Nat.beq b b'
   | _=>false
  | .sl s l=>match y with
   | .sl s' l'=>Nat.beq s s' && mC (vo k) l l'
   | _=>false
  | .iptr l s=>match y with
   | .iptr l' s'=>Nat.beq s s' && mC (vo k) l l'
   | _=>false
  | .func s l=>match y with
   | .func s' l'=>Nat.beq s s' && mC (vo k) l l'
   | _=>false
  | .agg l=>match y with
   | .agg l'=>mC (vo k) l l'
   | _=>false
  | .tup l=>match y with
   | .tup l'=>mC (vo k) l l'
   | _=>false
  | _=>false
def loadAt (T:Tm):Ins→Option Nat
 | .ld1 a=>match ov T a with
  | .ptr b _ _=>some b
  | _=>none
 | .ldn _ a=>match ov T a with
  | .ptr b _ _=>some b
  | _=>none
 | _=>none
def iX:List (Op2 × Nat)→TT→HT→List Nat→List Nat
 | [],_,_,acc=>acc
 | (o,0) :: l,T,H,acc=>match g2 (toT T) o.g with
  | some true=>match a8 (toT T) (d6 H) o.i with
   | some r=>match stT T o.d r with
    | some T'=>match loadAt (toT T) o.i with
     | some b=>iX l T' H (b :: acc)
     | none=>iX l T' H acc
    | none=>acc
   | none=>iX l T H acc
  | _=>iX l T H acc
 | (_,_ + 1) :: l,T,H,acc=>iX l T H acc
def tH (H0 H:HT):List Nat→Bool
 | []=>true
 | b :: l=>match d6 H0 b with
  | none=>tH H0 H l
  | some x=>match d6 H b with
   | some y=>match mC (vo SF) x y with
    | true=>tH H0 H l
    | false=>false
   | none=>false
def zV (H0:HT) (ids:List Nat):Hp:=fun b=>match ids.elem b with
 | true=>d6 H0 b
 | false=>none
def jX (cl:CL) (pc:PC) (yl:CL) (H0:HT) (ids:List Nat):List (Op2 × Nat)→TT→HT→Nat→Option (TT × HT × Nat)
 | [],T,H,nx=>some (T,H,nx)
 | (o,0) :: l,T,H,nx=>match g2 (toT T) o.g with
  | none=>none
  | some false=>match stT T o.d (.tup []) with
   | some T=>jX cl pc yl H0 ids l T H nx
   | none=>none
  | some true=>match a8 (toT T) (zV H0 ids) o.i with
   | none=>none
   | some r=>frV r fun r=>match stT T o.d r with
    | some T=>jX cl pc yl H0 ids l T H nx
    | none=>none
 | (o,k + 1) :: l,T,H,nx=>match g2 (toT T) o.g with
  | none=>none
  | some false=>match stT T o.d (.tup []) with
   | some T=>jX cl pc yl H0 ids l T H nx
   | none=>none
  | some true=>if k=2 then (match ny (toT T) o.i with
      | none=>none
      | some r=>frV r fun r=>match stT T o.d r with
       | some T=>jX cl pc yl H0 ids l T H nx
       | none=>none)
   else match AI cl pc yl .text o.i T H nx with
    | none=>none
    | some (r,H,nx)=>match (match k with | 0=>tH H0 H ids | _=>true) with
     | true=>frV r fun r=>match stT T o.d r with
      | some T=>jX cl pc yl H0 ids l T H nx
      | none=>none
     | false=>none
def rvs (T:Tm) (H:Hp):List RV→Option (List AV)
 | []=>some []
 | a :: l=>match rv T H a with
  | some x=>match rvs T H l with
   | some xs=>some (x :: xs)
   | none=>none
  | none=>none
def Ce (T:Tm) (H:Hp):List RV→Option AV
 | []=>some (.tup [])
 | [a]=>rv T H a
 | [a,b]=>match rv T H a,rv T H b with
  | some x,some y=>some (.tup [x,y])
  | _,_=>none
 | [a,b,c]=>match rv T H a,rv T H b,rv T H c with
  | some x,some y,some z=>some (.tup [x,y,z])
  | _,_,_=>none
 | a :: b :: c :: d :: l=>(rvs T H (a :: b :: c :: d :: l)).map .tup
structure LFr where
 y:Nat
 ps:List Nat
 a:C2
 b:C2
 T:TT
abbrev RN:=List LFr→C2→TT→HT→Nat→Option (AEx × TT × HT × Nat)
def mV (code:FuncId→Option F2) (rn:RN) (fr:List LFr):CL:=fun g args H nx =>
 match code g with
 | none=>none
 | some F=>if args.length ≤ F.n then match y9 args with
     | none=>none
     | some T=>match rn fr F.body T H nx with
      | none=>none
      | some (e,T',H',nx')=>match e.ends with
       | true=>match Ce (toT T') (d6 H') F.res with
        | some r=>frV r fun r=>some (r,H',nx')
        | none=>none
       | false=>none
  else none
def oD (code:FuncId→Option F2) (rn:RN):PC:=fun g args H =>
 match b5 (snapV bk SF) args with
 | some a=>match mV code rn [] g a .leaf 0 with
  | some (v,H',_)=>snapV (d6 H') SF v
  | none=>none
 | none=>match b5 (snapV (d6 H) SF) args with
  | some a=>match mV code rn [] g a .leaf 0 with
   | some (v,H',_)=>match snapV (d6 H') SF v with
    | some r=>match r.sca with
     | true=>some r
     | false=>iZ (d6 H') SF v
    | none=>none
   | none=>none
  | none=>none
def gl (H:Hp):Nat→List AV→List Nat→List Nat
 | 0,_,acc=>acc
 | _ + 1,[],acc=>acc
 | k + 1,x :: l,acc=>match x with
  | .msl b _ _ _ _=>match acc.elem b with
   | true=>gl H k l acc
   | false=>gl H k ((H b).getD [] ++ l) (b :: acc)
  | .ptr b _ _=>match acc.elem b with
   | true=>gl H k l acc
   | false=>gl H k ((H b).getD [] ++ l) (b :: acc)
  | .sl _ cs=>gl H k (cs ++ l) acc
  | .iptr cs _=>gl H k (cs ++ l) acc
  | .func _ cs=>gl H k (cs ++ l) acc
  | .agg cs=>gl H k (cs ++ l) acc
  | .tup cs=>gl H k (cs ++ l) acc
  | _=>gl H k l acc
def RF2:Nat:=100000
def rP:List Nat→HT→Option HT
 | [],H=>some H
 | b :: l,H=>match PT.set LIM H b none with
  | some H=>rP l H
  | none=>none
def Aq (code:FuncId→Option F2) (rn:RN):CL:=fun g args H nx =>
 match b5 (snapV bk SF) args with
 | some a=>match mV code rn [] g a .leaf 0 with
  | some (v,H',_)=>match snapV (d6 H') SF v with
   | some r=>some (r,H,nx)
   | none=>none
  | none=>none
 | none=>match b5 (snapV (d6 H) SF) args with
  | some a=>match mV code rn [] g a .leaf 0 with
   | some (v,H',_)=>match snapV (d6 H') SF v with
    | some r=>match r.sca with
     | true=>some (r,H,nx)
     | false=>match iZ (d6 H') SF v with
      | some r=>some (r,H,nx)
      | none=>match rP (gl (d6 H) RF2 args []) H with
       | some H2=>match b5 (snapV (fun b=>match (d6 H2 b).isSome with | true=>none | false=>d6 H b) SF) args with
        | some a2=>match mV code rn [] g a2 .leaf 0 with
         | some (v,H',_)=>match snapV (d6 H') SF v with
          | some r=>some (r,H2,nx)
          | none=>none
         | none=>none
        | none=>none
       | none=>none
    | none=>none
   | none=>none
  | none=>none
structure CT where
 c:FuncId→List AV→Nat→Option AV
 q:FuncId→List AV→Option AV
structure CTok (P:Program) (ct:CT):Prop where
 c:∀ (g:FuncId) (args:List AV) (nx:Nat) (r:AV),ct.c g args nx=some r→∀ (H:Hp) (R:AV→Hp→Nat→Prop),R r (aq H nx []) (nx + 1)→Fn P g args H nx R
 q:∀ (g:FuncId) (args:List AV) (r:AV),ct.q g args=some r→Pure P g args r
def ze (q:FuncId→List AV→Option AV) (g:FuncId) (args:List AV) (H:HT) (nx:Nat):Option (AV × HT × Nat) :=
 match b5 (snapV bk SF) args with
 | some a=>match q g a with
  | some r=>some (r,H,nx)
  | none=>none
 | none=>match b5 (snapV (d6 H) SF) args with
  | some a=>match q g a with
   | some r=>match r.sca with
    | true=>some (r,H,nx)
    | false=>match rP (gl (d6 H) RF2 args []) H with
     | some H2=>match b5 (snapV (fun b=>match (d6 H2 b).isSome with | true=>none | false=>d6 H b) SF) args with
      | some a2=>match q g a2 with
       | some r2=>some (r2,H2,nx)
       | none=>none
      | none=>none
     | none=>none
   | none=>none
  | none=>none
def oB (code:FuncId→Option F2) (pf:FuncId→Bool) (ct:CT) (rn:RN) (fr:List LFr):CL:=fun g args H nx =>
 match ct.c g args nx with
 | some r=>match PT.set LIM H nx (some (.cells [])) with
  | some H2=>some (r,H2,nx + 1)
  | none=>none
 | none=>match pf g with
  | true=>match ze ct.q g args H nx with
   | some r=>some r
   | none=>Aq code rn g args H nx
  | false=>mV code rn fr g args H nx
def vN:List LFr→Nat→Option (LFr × List LFr)
 | [],_=>none
 | F :: l,y=>match Nat.beq F.y y with
  | true=>some (F,l)
  | false=>vN l y
def stL (T:TT):List Nat→List AV→Option TT
 | t :: ts,x :: xs=>match PT.set LIM T t (some x) with
  | some T=>stL T ts xs
  | none=>none
 | _,_=>some T
def v7:AEx→Bool
 | .normal=>true
 | _=>false
def uv (rn:RN) (fr:List LFr):CL:=fun y args H nx =>
 match vN fr y with
 | none=>none
 | some (F,l)=>match H.get y with
  | some (.mark none)=>match Nat.beq args.length F.ps.length with
   | true=>match stL F.T F.ps args with
    | none=>none
    | some T1=>match rn l F.a T1 H nx with
     | some (.normal,T2,H2,nx2)=>match H2.get y with
      | some (.mark none)=>match PT.set LIM H2 y none with
       | none=>none
       | some H3=>match rn l F.b T2 H3 nx2 with
        | none=>none
        | some (e,T4,H4,nx4)=>match e with
         | .normal=>match PT.set LIM H4 y (some (.mark none)) with
          | some H5=>some (.bool true,H5,nx4)
          | none=>none
         | e=>match PT.set LIM H4 y (some (.mark (some e))) with
          | some H5=>some (.bool false,H5,nx4)
          | none=>none
      | _=>none
     | _=>none
   | false=>none
  | _=>none
def Cb (m nx:Nat):DM:=match m with
 | 0=>.text
 | 1=>.draw
 | _=>.fresh nx
def yE (m nx:Nat):DM:=match m with
 | 1=>.draw
 | _=>.fresh nx
def uG (x:Option (TT × HT × Nat)):Option (AEx × TT × HT × Nat):=match x with
 | some (T,H,nx)=>some (.normal,T,H,nx)
 | none=>none
def run (code:FuncId→Option F2) (pf:FuncId→Bool) (ct:CT):Nat→RN
 | 0,_,_,_,_,_=>none
 | n + 1,fr,c,T,H,nx=>match c with
  | .skip=>some (.normal,T,H,nx)
  | .exit i=>some (.exit i,T,H,nx)
  | .ret=>some (.ret,T,H,nx)
  | .ops m l=>uG (rZ (oB code pf ct (run code pf ct n) fr) (oD code (run code pf ct n)) (uv (run code pf ct n) fr) (Cb m nx) l T H nx)
  | .mix m l C=>match Nat.beq m 9 with
   | true=>uG (rZ (oB code pf ct (run code pf ct n) fr) (oD code (run code pf ct n)) (uv (run code pf ct n) fr) .text (C.map fun k=>l.getD k ⟨none,none,.dead⟩) T H nx)
   | false=>match rZ (oB code pf ct (run code pf ct n) fr) (oD code (run code pf ct n)) (uv (run code pf ct n) fr) (yE m nx) l T H nx with
    | some x=>uG (some x)
    | none=>uG (rZ (oB code pf ct (run code pf ct n) fr) (oD code (run code pf ct n)) (uv (run code pf ct n) fr) .text (C.map fun k=>l.getD k ⟨none,none,.dead⟩) T H nx)
  | .mixS m l C=>match (match Nat.beq m 9 with
      | true=>none
      | false=>rZ (oB code pf ct (run code pf ct n) fr) (oD code (run code pf ct n)) (uv (run code pf ct n) fr) (yE m nx) l T H nx) with
   | some x=>uG (some x)
   | none=>match tH H H (iX (C.map fun k=>(l.getD k.1 ⟨none,none,.dead⟩,k.2)) T H []) with
    | true=>uG (jX (oB code pf ct (run code pf ct n) fr) (oD code (run code pf ct n)) (uv (run code pf ct n) fr) H (iX (C.map fun k=>(l.getD k.1 ⟨none,none,.dead⟩,k.2)) T H []) (C.map fun k=>(l.getD k.1 ⟨none,none,.dead⟩,k.2)) T H nx)
    | false=>none
  | .seq a b=>match run code pf ct n fr a T H nx with
   | some (.normal,T,H,nx)=>run code pf ct n fr b T H nx
   | r=>r
  | .cond c a b=>match ov (toT T) c with
   | .bool true=>run code pf ct n fr a T H nx
   | .bool false=>run code pf ct n fr b T H nx
   | _=>none
  | .block id b=>match run code pf ct n fr b T H nx with
   | some (e,T,H,nx)=>some (iO id e,T,H,nx)
   | none=>none
  | .loop b=>match run code pf ct n fr b T H nx with
   | some (.normal,T,H,nx)=>run code pf ct n fr (.loop b) T H nx
   | r=>r
  | .rangeF g ps a b=>match ov (toT T) g with
   | .func f caps=>match vN fr nx with
    | some _=>none
    | none=>match PT.set LIM H nx (some (.mark none)) with
     | none=>none
     | some H1=>match mV code (run code pf ct n) (⟨nx,ps,a,b,T⟩ :: fr) f (.yld nx :: caps) H1 (nx + 1) with
      | none=>none
      | some (_,H2,nx2)=>match H2.get nx with
       | some (.mark st)=>match PT.set LIM H2 nx none with
        | none=>none
        | some H3=>match st with
         | none=>some (.normal,T,H3,nx2)
         | some e=>match v7 e with
          | true=>none
          | false=>some (e,T,H3,nx2)
       | _=>none
   | _=>none
def qh (P:Program) (L:LV):List LFr→Prop
 | []=>True
 | F :: fr => (∀ (args : List AV) (H' : Hp) (nx' : Nat) (K' : AV → Hp → Nat → Prop), H' F.y = some (L F.y none) → args.length = F.ps.length →
       aD P F.a (fA (toT F.T) F.ps args) H' nx' (fun e T2 H2 nx2=>aH e (H2 F.y=some (L F.y none)∧aD P F.b T2 (bK H2 F.y) nx2 fun e T3 H3 nx3=>aH e (K' (.bool true) (aq H3 F.y (L F.y none)) nx3) (K' (.bool false) (aq H3 F.y (L F.y (some e))) nx3)) False) →
       Yl P F.y args H' nx' K')∧qh P L fr
structure RunOk (P:Program) (rn:RN):Prop where
 ok:∀ {L:LV} {fr:List LFr} {c:C2} {T T':TT} {H H':HT} {nx nx':Nat} {e:AEx} {K:CP},qh P L fr→rn fr c T H nx=some (e,T',H',nx')→K e (toT T') (toH L H') nx'→aD P c (toT T) (toH L H) nx K
def isTrue:AV→Bool | .bool true=>true | _=>false
def lookup:List (Nat × F2)→FuncId→Option F2
 | [],_=>none
 | (k,F) :: l,f=>match Nat.beq k f with
  | true=>some F
  | false=>lookup l f
end Go.Abs
namespace Go.Abs
open Go Go.RowKit
def nT (W:World):Nat→Prop:=fun b=>b < W.heap.size
theorem uD {W:World} {a:Addr} {v:Value} (h:W.cell? a=some v):nT W a.block∧a.spot=none:=by
 unfold World.cell? at h
 unfold nT
 cases hb:W.heap[a.block]? with
 | none=>simp [hb] at h
 | some o =>
  refine ⟨(Array.getElem?_eq_some_iff.1 hb).1,?_⟩
  cases hs:a.spot with
  | none=>rfl
  | some s=>cases o <;> simp [hb,hs] at h
section
variable {H:Type} {enc:TypeId × Value→H} {P:Program} {W:World}
def cS (enc:TypeId × Value→H) (P:Program) (W:World) (t:TypeId) {α:Type} (f:α→AV) (good:α→Prop):Prop :=
 ∀ (n:Nat) (cs:List Value) (x:DataW H × List MemPlace),DataW.trod enc P W 0 (fun _=>true) true n t cs=some x→(∀ k ∈ x.1.weights P t,k ≤ reachBytes)→∃ a:α,good a∧bO (E0 (nT W)) W (f a).cells cs
theorem cS.mono {t:TypeId} {α:Type} {f:α→AV} {good good':α→Prop} (h:cS enc P W t f good) (hg:∀ a,good a→good' a):cS enc P W t f good' :=
 fun n cs x hx hw=>let ⟨a,h1,h2⟩:=h n cs x hx hw; ⟨a,hg a h1,h2⟩
theorem lW {E:Env} {w:World} {x:AV} {y:Value} (h:Rel E w x y):bO E w [x] [y]:=⟨rfl,fun i a b ha hb=>by
 cases i with
 | zero=>simp at ha hb; subst ha hb; exact h
 | succ i=>simp at ha⟩
theorem bO.app {E:Env} {w:World} {xs xs':List AV} {ys ys':List Value} (h:bO E w xs ys) (h':bO E w xs' ys'):bO E w (xs ++ xs') (ys ++ ys'):=by
 have hl:xs.length=ys.length:=h.1.symm
 refine ⟨by simp [h.1,h'.1],fun i a b ha hb=>?_⟩
 by_cases hi:i < xs.length
 ·rw [List.getElem?_append_left hi] at ha
  rw [List.getElem?_append_left (by omega)] at hb
  exact h.2 i a b ha hb
 ·rw [List.getElem?_append_right (by omega)] at ha
  rw [List.getElem?_append_right (by omega)] at hb
  rw [hl] at ha
  exact h'.2 _ a b ha hb
theorem oV {t:TypeId} {k:IntKind} (ht:P.underlying t=some (.int k)):cS enc P W t (AV.int k) (fun n=>(Lit.int k n).wf=true):=fun n cs x hx _=>by
 obtain ⟨a,rfl,rfl,hw⟩:=DataW.trod_int ht hx
 exact ⟨a,hw,lW (.int _ _)⟩
theorem np {e:TypeId} {l:List (DataW H)} {d:DataW H} (h:d ∈ l) {k:Nat} (hk:k ∈ d.weights P e):k ∈ DataW.weightsAll P e l:=by
 induction l with
 | nil=>cases h
 | cons a l ih =>
  unfold DataW.weightsAll
  rcases List.mem_cons.1 h with rfl | h
  ·exact List.mem_append_left _ hk
  ·exact List.mem_append_right _ (ih h)
theorem qR {α:Type} {len:Nat} {Q:Nat→α→Prop} (h:∀ i,i < len→∃ a,Q i a):∃ l:List α,l.length=len∧∀ i a,l[i]?=some a→Q i a:=by
 induction len with
 | zero=>exact ⟨[],rfl,fun i a h=>by simp at h⟩
 | succ n ih =>
  obtain ⟨l,h1,h2⟩:=ih (fun i hi=>h i (by omega))
  obtain ⟨a,ha⟩:=h n (by omega)
  refine ⟨l ++ [a],by simp [h1],fun i b hb=>?_⟩
  by_cases hi:i < l.length
  ·rw [List.getElem?_append_left hi] at hb; exact h2 i b hb
  ·rw [List.getElem?_append_right (by omega)] at hb
   have:i - l.length=0:=by
    by_cases h0:i - l.length=0
    ·exact h0
    ·rw [List.getElem?_eq_none (by simp; omega)] at hb; cases hb
   rw [this] at hb; simp at hb; subst hb
   have:i=n:=by omega
   subst this; exact ha
theorem ll {t e:TypeId} {sz by_:Nat} {α:Type} {f:α→AV} {good:α→Prop} (ht:P.underlying t=some (.slice e)) (hsz:P.cellsOf e=sz) (hby:P.bytesOf e=by_) (hpos:0 < sz) (hc:∀ a,(f a).cells.length=sz)
    (he:cS enc P W e f good):cS enc P W t (fg sz f) (fun l=>(∀ a ∈ l,good a)∧l.length ≤ 9223372036854775807∧l.length * by_ ≤ 140737488351232):=fun n cs x hx hw=>by
 rcases Go.Deep.open_slice ht hx with ⟨rfl,rfl⟩ | ⟨a,len,cap,m,n',D,Pl,rfl,hb,hlc,hcm,hm,hxe,hel⟩
 ·exact ⟨[],⟨fun _ h=>(by cases h),by simp,by simp⟩,lW (.slnil _)⟩
 simp only [if_true] at hm
 subst hxe
 subst hm
 have hw':∀ k ∈ ((DataW.slice (H:=H) ((List.range len).map D) ((List.range (m - len)).map fun j=>D (len + j))).weights P t),k ≤ reachBytes:=hw
 simp only [DataW.weights,ht] at hw'
 have hlen:(((List.range len).map D).length + ((List.range (m - len)).map fun j=>D (len + j)).length) * P.bytesOf e ≤ reachBytes:=hw' _ (List.mem_cons_self ..)
 have hbd:len * by_ ≤ 140737488351232:=by
  rw [hby] at hlen
  simp only [List.length_map,List.length_range] at hlen
  have h1:len * by_ ≤ (len + (m - len)) * by_:=Nat.mul_le_mul_right _ (by omega)
  have h2:reachBytes=140737488351232:=rfl
  omega
 have hlm:len ≤ 9223372036854775807:=Nat.le_trans hlc hcm
 have key:∀ i,i < len→∃ a':α,good a'∧∃ cs',W.cells? 0 (a.add (i * sz)) sz=some cs'∧bO (E0 (nT W)) W (f a').cells cs':=fun i hi=>by
  obtain ⟨cs',h1,h2⟩:=hel i (by omega)
  rw [hsz] at h1
  obtain ⟨a',g1,g2⟩:=he n' cs' _ h2 (fun k hk=>hw' k (List.mem_cons_of_mem _ (List.mem_append_left _ (np (List.mem_map.2 ⟨i,List.mem_range.2 hi,rfl⟩) hk))))
  exact ⟨a',g1,cs',h1,g2⟩
 obtain ⟨l,hl,hq⟩:=qR key
 refine ⟨l,⟨fun x hx=>?_,by omega,by rw [hl]; exact hbd⟩,lW ?_⟩
 ·obtain ⟨i,hi⟩:=List.getElem?_of_mem hx
  exact (hq i x hi).1
 by_cases h0:len=0
 ·subst h0
  have:l=[]:=List.length_eq_zero_iff.1 hl
  subst this
  exact .slempty _ _ _
 have hcell:∀ i j,i < len→j < sz→∃ v,W.cell? ((a.add (i * sz)).add j)=some v:=fun i j hi hj=>by
  obtain ⟨a',_,cs',h1,h2⟩:=key i hi
  unfold World.cells? at h1
  rw [if_pos (Nat.zero_le _)] at h1
  have h3:=mapM_some_get h1 j j (by simp [hj])
  have h4:j < cs'.length:=by
   have:=mapM_some_length h1
   simp at this; omega
  exact ⟨cs'[j],by rw [h3]; simp [h4]⟩
 obtain ⟨v0,hv0⟩:=hcell 0 0 (by omega) hpos
 have ho:=uD hv0
 simp only [Nat.zero_mul,Addr.add,if_true] at ho
 obtain ⟨blk,off,sp⟩:=a
 obtain ⟨ho,hsp⟩:=ho
 simp only at hsp ho
 subst hsp
 have hadd:∀ i j,((⟨blk,off,none⟩:Addr).add (i * sz)).add j=⟨blk,off + (i * sz + j),none⟩:=fun i j=>by
  rw [bu,bu,Nat.add_assoc]
 have hcell':∀ k,k < len * sz→∃ v,W.cell? ⟨blk,off + k,none⟩=some v:=fun k hk=>by
  have h1:k / sz < len:=Nat.div_lt_of_lt_mul (by rw [Nat.mul_comm]; exact hk)
  have h2:k % sz < sz:=Nat.mod_lt _ hpos
  obtain ⟨v,hv⟩:=hcell (k / sz) (k % sz) h1 h2
  rw [hadd,Nat.div_add_mod'] at hv
  exact ⟨v,hv⟩
 have hlen2:(l.map f).length=len:=by simp [hl]
 have:=Rel.sl (E:=E0 (nT W)) (w:=W) sz (l.map f) blk off m (fun k=>(W.cell? ⟨blk,off + k,none⟩).getD Go.undef) ho (by rw [hlen2]; exact hlc)
  (fun x hx=>by obtain ⟨b,_,rfl⟩:=List.mem_map.1 hx; exact hc b)
  (fun k hk=>by
   rw [hlen2] at hk
   obtain ⟨v,hv⟩:=hcell' k hk
   simp only [hv,Option.getD_some])
  (fun i j x y hx hy=>by
   rw [List.getElem?_map,Option.map_eq_some_iff] at hx
   obtain ⟨a',ha',rfl⟩:=hx
   obtain ⟨_,cs',h1,h2⟩:=hq i a' ha'
   have hj:j < sz:=by
    have:=(List.getElem?_eq_some_iff.1 hy).1
    rwa [hc] at this
   have hi:i < len:=by
    have:=(List.getElem?_eq_some_iff.1 ha').1
    omega
   unfold World.cells? at h1
   rw [if_pos (Nat.zero_le _)] at h1
   have h3:=mapM_some_get h1 j j (by simp [hj])
   have h4:j < cs'.length:=by
    have:=mapM_some_length h1
    simp at this; omega
   rw [hadd] at h3
   have h5:cs'[j]?=some cs'[j]:=by simp [h4]
   rw [h5] at h3
   simp only [h3,Option.getD_some]
   exact h2.2 j y _ hy h5)
 rw [hlen2] at this
 exact this
def pu (enc:TypeId × Value→H) (P:Program) (W:World) (fs:List Field) (off:Nat) {α:Type} (g:α→List AV) (good:α→Prop):Prop :=
 ∀ (n tot:Nat) (cs:List Value) (ys:List (DataW H × List MemPlace)),ys.length=fs.length→(∀ (i:Nat) (f:Field),fs[i]?=some f→DataW.trod enc P W 0 (fun _=>true) true n f.type ((cs.drop f.offset).take (P.cellsOf f.type))=ys[i]?) →
  (∀ k ∈ DataW.weightsEach P (fs.map fun f:Field=>f.type) (ys.map (·.1)),k ≤ reachBytes)→cs.length=tot→tot=off + (fs.map fun f:Field=>P.cellsOf f.type).sum→∃ a:α,good a∧bO (E0 (nT W)) W (g a) (cs.drop off)
theorem nI {off:Nat}:pu enc P W [] off (fun _:Unit=>[]) (fun _=>True):=fun n tot cs ys _ _ _ h1 h2=>by
 refine ⟨(),trivial,?_⟩
 rw [List.drop_eq_nil_of_le (by simp at h2; omega)]
 exact ⟨rfl,fun i a b h=>by simp at h⟩
theorem gW {fd:Field} {fs:List Field} {off off':Nat} {α β:Type} {f:α→AV} {g:β→List AV} {good:α→Prop} {good':β→Prop} (ho:fd.offset=off) (ho':off + P.cellsOf fd.type=off')
    (h:cS enc P W fd.type f good) (h':pu enc P W fs off' g good'):pu enc P W (fd :: fs) off (fun a:α × β=>(f a.1).cells ++ g a.2) (fun a=>good a.1∧good' a.2):=fun n tot cs ys hl hy hw h1 h2=>by
 obtain ⟨y,ys,rfl⟩:∃ y ys',ys=y :: ys':=by
  cases ys with
  | nil=>simp at hl
  | cons y ys=>exact ⟨y,ys,rfl⟩
 have hy0:=hy 0 fd rfl
 simp only [List.getElem?_cons_zero] at hy0
 rw [ho] at hy0
 simp only [List.map_cons,DataW.weightsEach] at hw
 obtain ⟨a,g1,g2⟩:=h n _ y hy0 (fun k hk=>hw k (List.mem_append_left _ hk))
 simp only [List.map_cons,List.sum_cons] at h2
 obtain ⟨b,g3,g4⟩:=h' n tot cs ys (by simpa using hl) (fun i f hf=>by
  have:=hy (i + 1) f (by simpa using hf)
  simpa using this) (fun k hk=>hw k (List.mem_append_right _ hk)) h1 (by omega)
 refine ⟨(a,b),⟨g1,g3⟩,?_⟩
 have e:cs.drop off=(cs.drop off).take (P.cellsOf fd.type) ++ cs.drop off':=by
  rw [← ho',← List.drop_drop,List.take_append_drop]
 rw [e]
 exact bO.app g2 g4
theorem i9 {t:TypeId} {fs:Array Field} {α:Type} {g:α→List AV} {good:α→Prop} (ht:P.underlying t=some (.struct fs)) (hsum:P.cellsOf t=(fs.toList.map fun f:Field=>P.cellsOf f.type).sum)
    (h:pu enc P W fs.toList 0 g good):cS enc P W t (fun a=>.agg (g a)) good:=fun n cs x hx hw=>by
 obtain ⟨ys,n',rfl,rfl,hl,hs,hy⟩:=DataW.trod_struct ht hx
 obtain ⟨a,g1,g2⟩:=h n' _ cs ys (by rw [hs]; simp) (fun i f hf=>hy i f (by simpa using hf)) (fun k hk=>hw k (by
  simp only [DataW.weights,ht]; exact hk)) hl (by rw [Nat.zero_add,hsum])
 exact ⟨a,g1,by rw [List.drop_zero] at g2; exact g2⟩
theorem cS.map {t:TypeId} {α β:Type} {f:α→AV} {good:α→Prop} {f':β→AV} {good':β→Prop} (h:cS enc P W t f good) (φ:α→β) (hg:∀ a,good a→good' (φ a)) (hf:∀ a,good a→(f' (φ a)).cells=(f a).cells):cS enc P W t f' good':=fun n cs x hx hw=>by
 obtain ⟨a,h1,h2⟩:=h n cs x hx hw
 exact ⟨φ a,hg a h1,by rw [hf a h1]; exact h2⟩
theorem cS.at {t u:TypeId} {α:Type} {f:α→AV} {good:α→Prop} (e:t=u) (h:cS enc P W u f good):cS enc P W t f good:=e ▸ h
theorem cS.argA {t:TypeId} {α:Type} {f:α→AV} {good:α→Prop} (h:cS enc P W t f good) {r:Reach} {base:Nat} {v:Value} {d:DataW H} {ps:List MemPlace} (ht:jG P t=true) (hf:∀ a,∃ cs,f a=.agg cs)
    (hval:Value.okWide P W r base t v) (hd:DataW.Trod enc P W 0 (fun _=>true) true t v d ps) (hw:∀ k ∈ d.weights P t,k ≤ reachBytes):∃ a,good a∧Rel (E0 (nT W)) W (f a) v:=by
 obtain ⟨n,hn⟩:=hd
 obtain ⟨a,h1,h2⟩:=h n _ _ hn hw
 refine ⟨a,h1,?_⟩
 obtain ⟨cs,hcs,_⟩:∃ cs,v=.agg cs∧True:=by
  unfold Value.okWide at hval
  unfold jG at ht
  split at hval
  ·obtain ⟨cs,h,_⟩:=hval; exact ⟨cs,h,trivial⟩
  ·obtain ⟨cs,h,_⟩:=hval; exact ⟨cs,h,trivial⟩
  ·rename_i k1 k2
   revert ht
   cases hu:P.underlying t with
   | none=>simp
   | some u =>
    cases u with
    | struct fs=>exact absurd hu (k1 fs)
    | array m e=>exact absurd hu (k2 m e)
    | _=>simp
 subst hcs
 obtain ⟨xs,hx⟩:=hf a
 rw [hx] at h2 ⊢
 exact .agg xs cs.toList h2.1 h2.2
theorem cS.arg1 {t:TypeId} {α:Type} {f:α→AV} {good:α→Prop} (h:cS enc P W t f good) {v:Value} {d:DataW H} {ps:List MemPlace} (hf:∀ a,(f a).cells=[f a]) (hv:v.cells=#[v])
    (hd:DataW.Trod enc P W 0 (fun _=>true) true t v d ps) (hw:∀ k ∈ d.weights P t,k ≤ reachBytes):∃ a,good a∧Rel (E0 (nT W)) W (f a) v:=by
 obtain ⟨n,hn⟩:=hd
 obtain ⟨a,h1,h2⟩:=h n _ _ hn hw
 rw [hf,hv] at h2
 exact ⟨a,h1,h2.2 0 _ _ rfl rfl⟩
theorem uH {t:TypeId} {r:Reach} {base:Nat} {v:Value} (ht:jG P t=false) (hval:Value.okWide P W r base t v):v.cells=#[v]:=by
 cases v <;> try rfl
 rename_i cs
 exfalso
 unfold Value.okWide at hval
 unfold jG at ht
 cases hu:P.underlying t with
 | none=>simp only [hu,Cell.okWide,Cell.ok] at hval
 | some u =>
  rw [hu] at ht
  cases u <;> simp only [hu,Cell.okWide,Cell.ok] at hval <;> simp at ht
theorem iI (hl:laidOutB P=true) {W':World} (hb:Below W.heap.size W W') {sp:Nat→Bool}:∀ {ts:List TypeId} {vs:List Value} {ds:List (DataW H)} {ps:List MemPlace},(∀ t ∈ ts,P.readableRec t=true∧t < P.types.size) →
    DataW.TrodAll enc P W 0 (fun _=>true) true ts vs ds ps→(∀ p ∈ ps,p.block < W.heap.size)→(∀ p ∈ ps,sp p.block=true)→DataW.TrodAll enc P W' 0 sp true ts vs ds ps
 | [],[],[],ps,_,h,_,_=>h
 | t :: ts,v :: vs,d :: ds,ps,hr,⟨p,q,h1,h2,e⟩,hlt,hsp=>by
  subst e
  exact ⟨p,q,WideElems.Trod_stays hl (hr t (List.mem_cons_self ..)).1 (hr t (List.mem_cons_self ..)).2 h1 (fun x hx=>hb.same (hlt x (List.mem_append_left _ hx))) (fun x hx=>hsp x (List.mem_append_left _ hx)),
   iI hl hb (fun t ht=>hr t (List.mem_cons_of_mem _ ht)) h2 (fun x hx=>hlt x (List.mem_append_right _ hx)) (fun x hx=>hsp x (List.mem_append_right _ hx)),rfl⟩
 | [],_ :: _,_,_,_,h,_,_=>h.elim
 | [],[],_ :: _,_,_,h,_,_=>h.elim
 | _ :: _,[],_,_,_,h,_,_=>h.elim
 | _ :: _,_ :: _,[],_,_,h,_,_=>h.elim
theorem gY:∀ {ts:List TypeId} {ds:List (DataW H)} {i:Nat} {t:TypeId} {d:DataW H},ts[i]?=some t→ds[i]?=some d→∀ k ∈ d.weights P t,k ∈ DataW.weightsEach P ts ds
 | t :: ts,d :: ds,0,_,_,h1,h2,k,hk=>by
  simp at h1 h2; subst h1 h2
  unfold DataW.weightsEach
  exact List.mem_append_left _ hk
 | t :: ts,d :: ds,i + 1,_,_,h1,h2,k,hk=>by
  unfold DataW.weightsEach
  exact List.mem_append_right _ (gY (ts:=ts) (ds:=ds) (by simpa using h1) (by simpa using h2) k hk)
 | [],_,i,_,_,h1,_,_,_=>by simp at h1
 | _ :: _,[],i,_,_,_,h2,_,_=>by simp at h2
end
end Go.Abs