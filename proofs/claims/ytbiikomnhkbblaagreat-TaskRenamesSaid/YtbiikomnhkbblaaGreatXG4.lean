/- Texts of this claim, one after the other: AbsC9, AbsD1, AbsD2, AbsZ, AbsI, AbsI2, AbsO. -/
import Derived.Test.YtbiikomnhkbblaaGreatXG3
import Derived.ChangeArms
import Derived.Carry
import Derived.Deep.Slices
import Derived.Lib.SmallJoins

set_option linter.unusedSimpArgs false
set_option linter.unusedVariables false
namespace Go.Abs
theorem simB1:(∀ l:List Int,(encV l).cells=[encV l])∧(∀ l:List (List Int),(encVV l).cells=[encVV l])∧(∀ x:Nat,noBoxes x=none) ∧
    (∀ (α β:Type) (f:α→β) (a:α) (l:List α),(a :: l).map f=f a :: l.map f)∧(∀ (α β:Type) (f:α→β),([]:List α).map f=[])∧(∀ (α β:Type) (f:α→β) (a:α),(some a).map f=some (f a))∧(∀ (α β:Type) (f:α→β),(none:Option α).map f=none) ∧
    (∀ n:Nat,0 + n=n)∧(∀ n:Nat,n + 0=n)∧(∀ p:Prop,(p∧p)=p)∧(∀ p:Prop,(p∧True)=p)∧(∀ p:Prop,(True∧p)=p)∧((!true)=false)∧((!false)=true) ∧
    (∀ (α:Type) (a:α) (l m:List α),(a :: l) ++ m=a :: (l ++ m))∧(∀ (α:Type) (l:List α),[] ++ l=l)∧(∀ (α:Type) (l:List α),l ++ []=l) :=
  ⟨fun _=>rfl,fun _=>rfl,fun _=>rfl,fun _ _ _ _ _=>rfl,fun _ _ _=>rfl,fun _ _ _ _=>rfl,fun _ _ _=>rfl,Nat.zero_add,Nat.add_zero,and_self,and_true,true_and,rfl,rfl,fun _ _ _ _=>rfl,fun _ _=>rfl,fun _ l=>List.append_nil l⟩
theorem simB0:(∀ (H:Hp) (b x:Nat) (cs:List AV),hupd H b cs x=if x=b then some cs else H x)∧(∀ (H:Hp) (b x:Nat),hdel H b x=if x=b then none else H x):=⟨fun _ _ _ _=>rfl,fun _ _ _=>rfl⟩
theorem simB2:(∀ (H:Hp) (b:Nat) (cs:List AV),hupd H b cs b=some cs)∧(∀ (H:Hp) (b x:Nat) (cs:List AV),x ≠ b→hupd H b cs x=H x)∧(∀ (H:Hp) (b:Nat),hdel H b b=none)∧(∀ (H:Hp) (b x:Nat),x ≠ b→hdel H b x=H x)∧(∀ a b c:Nat,a + b + c=a + (b + c)) :=
  ⟨fun _ _ _=>hupd_self',fun _ _ _ _ h=>hupd_ne h,fun _ _=>hdel_self,fun _ _ _ h=>hdel_ne h,Nat.add_assoc⟩
theorem ZA:((∀ l:List Int,(encV l).cells=[encV l])∧(∀ l:List (List Int),(encVV l).cells=[encVV l])∧(∀ x:Nat,noBoxes x=none) ∧
    (∀ (α β:Type) (f:α→β) (a:α) (l:List α),(a :: l).map f=f a :: l.map f)∧(∀ (α β:Type) (f:α→β),([]:List α).map f=[])∧(∀ (α β:Type) (f:α→β) (a:α),(some a).map f=some (f a))∧(∀ (α β:Type) (f:α→β),(none:Option α).map f=none) ∧
    (∀ n:Nat,0 + n=n)∧(∀ n:Nat,n + 0=n)∧(∀ p:Prop,(p∧p)=p)∧(∀ p:Prop,(p∧True)=p)∧(∀ p:Prop,(True∧p)=p)∧((!true)=false)∧((!false)=true) ∧
    (∀ (α:Type) (a:α) (l m:List α),(a :: l) ++ m=a :: (l ++ m))∧(∀ (α:Type) (l:List α),[] ++ l=l)∧(∀ (α:Type) (l:List α),l ++ []=l)) ∧
    ((∀ (T:Tm) (n:Nat),ov T (.t n)=T n)∧(∀ (T:Tm) (v:AV),ov T (.c v)=v)∧(∀ (T:Tm) (d t:Nat) (v:AV),upd T d v t=if t=d then v else T t)∧(∀ (T:Tm) (d:Nat) (v:AV),updo T (some d) v=upd T d v) ∧
    (∀ (T:Tm) (v:AV),updo T none v=T)∧(∀ (x:AV) (l:List AV),T0 (x :: l) 0=x)∧(∀ (x:AV) (l:List AV) (n:Nat),T0 (x :: l) (n + 1)=T0 l n)∧(∀ n:Nat,T0 [] n=.undef) ∧
    (∀ (d t:Nat) (v:AV) (l:List (Nat × AV)),tl ((d,v) :: l) t=if t=d then v else tl l t)∧(∀ t:Nat,tl [] t=.undef) ∧
    (∀ (T:Tm) (t:Nat) (ts:List Nat) (x:AV) (xs:List AV),updl T (t :: ts) (x :: xs)=updl (upd T t x) ts xs)∧(∀ (T:Tm) (xs:List AV),updl T [] xs=T)) ∧
    ((∀ (T:Tm) (H:Hp) (x:Opd),ival T H (.mov x)=some (ov T x)) ∧
    (∀ (T:Tm) (H:Hp) (c a b:Opd),ival T H (.pick c a b)=match ov T c with | .bool t=>some (if t=true then ov T a else ov T b) | _=>none) ∧
    (∀ (T:Tm) (H:Hp) (a:Opd),ival T H (.ld1 a)=rd1 H (ov T a))∧(∀ (T:Tm) (H:Hp) (k:Nat) (a:Opd),ival T H (.ldn k a)=(rd H k (ov T a)).map .agg) ∧
    (∀ (T:Tm) (H:Hp) (op:BinOp) (tb tf:Bool) (x y:Opd),ival T H (.bin op tb tf x y)=abin2 op tb tf (ov T x) (ov T y)) ∧
    (∀ (T:Tm) (H:Hp) (op:UnOp) (x:Opd),ival T H (.un op x)=aun op (ov T x)) ∧
    (∀ (T:Tm) (H:Hp) (f:FuncId) (caps:List Opd),ival T H (.mkfn f caps)=some (.func f (caps.map (ov T)))) ∧
    (∀ (T:Tm) (H:Hp) (k:Nat) (p:Opd),ival T H (.fa k p)=apadd k (ov T p)) ∧
    (∀ (T:Tm) (H:Hp) (sz:Nat) (x i:Opd),ival T H (.ixaS sz x i)=aixS sz (ov T x) (ov T i)) ∧
    (∀ (T:Tm) (H:Hp) (x:Opd) (i:Nat),ival T H (.ext x i)=aextract (ov T x) i) ∧
    (∀ (T:Tm) (H:Hp) (x:Opd),ival T H (.lenS x)=alenS (ov T x)) ∧
    (∀ (T:Tm) (H:Hp) (z:List AV) (parts:List (Nat × Nat × Opd)),ival T H (.bld z parts)=(afill2 z (parts.map fun p=>(p.1,p.2.1,ov T p.2.2))).map .agg) ∧
    (∀ (T:Tm) (H:Hp) (x:Opd) (l:List Opd),ival T H (.mx x l)=afold amax2 (ov T x) (l.map (ov T))) ∧
    (∀ (T:Tm) (H:Hp) (x:Opd) (l:List Opd),ival T H (.mn x l)=afold amin2 (ov T x) (l.map (ov T))) ∧
    (∀ (T:Tm) (H:Hp) (k:IntKind) (x:Opd),ival T H (.conv k x)=aint (ov T x) fun n=>some (.int k (k.wrap n))) ∧
    (∀ (T:Tm) (H:Hp) (sz:Nat) (x:Opd) (lo hi mx:Option Opd),ival T H (.sls sz x lo hi mx)=asls sz (ov T x) (lo.map (ov T)) (hi.map (ov T)) (mx.map (ov T))) ∧
    (∀ (T:Tm) (H:Hp) (off:Nat) (x:Opd),ival T H (.part1 off x)=acells (ov T x) fun cs=>cs[off]?) ∧
    (∀ (T:Tm) (H:Hp) (op:BinOp) (ks:List TK) (x y:Opd),ival T H (.binS op ks x y)=acells (ov T x) fun xs=>acells (ov T y) fun ys=>acmpS op ks xs ys)) ∧
    ((∀ (T:Tm) (H:Hp) (n:Nat) (x:Opd) (lo hi:Option Opd),ival T H (.slsA n x lo hi)=aslsA n (ov T x) (lo.map (ov T)) (hi.map (ov T)) none) ∧
    (∀ (T:Tm) (H:Hp) (f:FuncId) (l:List Opd),ival T H (.mkbf f l)=some (.bfn f (l.map (ov T)))) ∧
    (∀ (T:Tm) (H:Hp) (x:Opd),ival T H (.lenStr x)=alenStr (ov T x)) ∧
    (∀ (T:Tm) (H:Hp) (x i:Opd),ival T H (.ixStr x i)=aixStr (ov T x) (ov T i)) ∧
    (∀ (T:Tm) (H:Hp) (x:Opd) (lo hi:Option Opd),ival T H (.slstr x lo hi)=aslstr (ov T x) (lo.map (ov T)) (hi.map (ov T))) ∧
    (∀ (T:Tm) (H:Hp) (off k:Nat) (x:Opd),ival T H (.partn off k x)=acells (ov T x) fun cs=>if off + k ≤ cs.length then some (.agg ((cs.drop off).take k)) else none) ∧
    (∀ (T:Tm) (H:Hp) (n:Nat),ival T H (.lenC n)=some (.int .i64 n)) ∧
    (∀ (s:ByteArray),alenStr (.str s)=some (.int .i64 s.size)) ∧
    (∀ (s:ByteArray) (k:IntKind) (n:Int),aixStr (.str s) (.int k n)=if 0 ≤ n∧n < s.size then some (.int .u8 (s[n.toNat]?.getD 0).toNat) else none)) ∧
    ((∀ (k:IntKind) (a b:Int) (tb tf:Bool),abin2 .lss tb tf (.int k a) (.int k b)=some (.bool (decide (a < b))))∧(∀ (k:IntKind) (a b:Int) (tb tf:Bool),abin2 .leq tb tf (.int k a) (.int k b)=some (.bool (decide (a ≤ b)))) ∧
    (∀ (k:IntKind) (a b:Int) (tb tf:Bool),abin2 .gtr tb tf (.int k a) (.int k b)=some (.bool (decide (b < a))))∧(∀ (k:IntKind) (a b:Int) (tb tf:Bool),abin2 .geq tb tf (.int k a) (.int k b)=some (.bool (decide (b ≤ a)))) ∧
    (∀ (k:IntKind) (a b:Int) (tb tf:Bool),abin2 .eql tb tf (.int k a) (.int k b)=some (.bool (decide (a=b))))∧(∀ (k:IntKind) (a b:Int) (tb tf:Bool),abin2 .neq tb tf (.int k a) (.int k b)=some (.bool (decide (a ≠ b)))) ∧
    (∀ (k:IntKind) (a b:Int) (tb tf:Bool),abin2 .add tb tf (.int k a) (.int k b)=some (.int k (k.wrap (a + b))))∧(∀ (k:IntKind) (a b:Int) (tb tf:Bool),abin2 .sub tb tf (.int k a) (.int k b)=some (.int k (k.wrap (a - b)))) ∧
    (∀ (k:IntKind) (a b:Int) (tb tf:Bool),abin2 .mul tb tf (.int k a) (.int k b)=some (.int k (k.wrap (a * b)))) ∧
    (∀ (a b:Bool) (tf:Bool),abin2 .eql true tf (.bool a) (.bool b)=some (.bool (a == b)))∧(∀ (a b:Bool) (tf:Bool),abin2 .neq true tf (.bool a) (.bool b)=some (.bool (!(a == b)))) ∧
    (∀ tb:Bool,abin2 .eql tb true .nilf .nilf=some (.bool true))∧(∀ tb:Bool,abin2 .neq tb true .nilf .nilf=some (.bool false)) ∧
    (∀ (tb:Bool) (f:FuncId) (c:List AV),abin2 .eql tb true (.func f c) .nilf=some (.bool false))∧(∀ (tb:Bool) (f:FuncId) (c:List AV),abin2 .neq tb true (.func f c) .nilf=some (.bool true)) ∧
    (∀ b:Bool,aun .not (.bool b)=some (.bool (!b))) ∧
    (∀ (k:IntKind) (a b:Int),amax2 (.int k a) (.int k b)=some (.int k (max a b)))∧(∀ (k:IntKind) (a b:Int),amin2 (.int k a) (.int k b)=some (.int k (min a b))) ∧
    (∀ (f:AV→AV→Option AV) (x:AV),afold f x []=some x)∧(∀ (f:AV→AV→Option AV) (x y:AV) (l:List AV),afold f x (y :: l)=match f x y with | some z=>afold f z l | none=>none) ∧
    (∀ (k:Nat) (b n off:Nat),apadd k (.ptr b n off)=some (.ptr b n (off + k)))∧(∀ (k:Nat) (cs:List AV) (off:Nat),apadd k (.iptr cs off)=some (.iptr cs (off + k))) ∧
    (∀ (cs:List AV) (off:Nat),rd1 noBoxes (.iptr cs off)=cs[off]?)) ∧
    ((∀ (H:Hp) (b n off:Nat),rd1 H (.ptr b n off)=match H b with | some cs=>if cs.length=n then cs[off]? else none | none=>none) ∧
    (∀ (H:Hp) (k b n off:Nat),rd H k (.ptr b n off)=match H b with | some cs=>if cs.length=n∧off + k ≤ n then some ((cs.drop off).take k) else none | none=>none) ∧
    (∀ (H:Hp) (cs:List AV) (off:Nat),rd1 H (.iptr cs off)=cs[off]?)∧(∀ (H:Hp) (cs:List AV) (off k:Nat),rd H k (.iptr cs off)=if off + k ≤ cs.length then some ((cs.drop off).take k) else none) ∧
    (∀ (l:List AV) (i:Nat),aextract (.tup l) i=l[i]?)∧(∀ (l:List AV) (f:List AV→Option AV),acells (.agg l) f=f l)∧(∀ (k:IntKind) (n:Int) (f:Int→Option AV),aint (.int k n) f=f n) ∧
    (∀ (cs:List AV),afill2 cs []=some cs) ∧
    (∀ (cs:List AV) (off sz:Nat) (x:AV) (r:List (Nat × Nat × AV)),afill2 cs ((off,sz,x) :: r)=if AV.ones x.cells=true∧x.cells.length=sz∧off + sz ≤ cs.length then afill2 (lput cs off x.cells) r else none) ∧
    (∀ (b n sz off len:Nat),alenS (.msl b n sz off len)=some (.int .i64 len))∧(alenS .esl=some (.int .i64 0))∧(∀ (sz:Nat) (l:List AV),alenS (.sl sz l)=some (.int .i64 l.length)) ∧
    (∀ (z:AV),zcells z 0=[])∧(∀ (z:AV) (n:Nat),zcells z (n + 1)=z.cells ++ zcells z n)) ∧
    ((∀ (a:AV) (l:List AV),(a :: l)[0]?=some a)∧(∀ (a:AV) (l:List AV) (n:Nat),(a :: l)[n + 1]?=l[n]?)∧(∀ (l:List AV),l.drop 0=l)∧(∀ (a:AV) (l:List AV) (n:Nat),(a :: l).drop (n + 1)=l.drop n)∧(∀ n:Nat,([]:List AV).drop n=[]) ∧
    (∀ (l:List AV),l.take 0=[])∧(∀ (a:AV) (l:List AV) (n:Nat),(a :: l).take (n + 1)=a :: l.take n)∧(∀ n:Nat,([]:List AV).take n=[])∧(∀ (l:List AV),[] ++ l=l)∧(∀ (l:List AV),l ++ []=l)∧(∀ (a:AV) (l m:List AV),(a :: l) ++ m=a :: (l ++ m)) ∧
    (∀ (cs:List AV) (off:Nat) (new:List AV),lput cs off new=cs.take off ++ new ++ cs.drop (off + new.length))∧(([]:List AV).length=0)∧(∀ (a:AV) (l:List AV),(a :: l).length=l.length + 1) ∧
    (∀ (k:IntKind) (n:Int),(AV.int k n).cells=[.int k n])∧(∀ b:Bool,(AV.bool b).cells=[.bool b])∧(∀ s:ByteArray,(AV.str s).cells=[.str s])∧(∀ (k:Nat) (l:List AV),(AV.sl k l).cells=[.sl k l])∧(∀ l:List AV,(AV.agg l).cells=l)∧(AV.esl.cells=[.esl])∧(AV.nilf.cells=[.nilf]) ∧
    (∀ (f:FuncId) (c:List AV),(AV.func f c).cells=[.func f c])∧(∀ (b n off:Nat),(AV.ptr b n off).cells=[.ptr b n off])∧(∀ (c:List AV) (off:Nat),(AV.iptr c off).cells=[.iptr c off])∧(∀ (b n sz off len:Nat),(AV.msl b n sz off len).cells=[.msl b n sz off len])∧(∀ b:Nat,(AV.yld b).cells=[.yld b])∧(∀ b:Nat,(AV.mp b).cells=[.mp b])∧(AV.nilp.cells=[.nilp])∧(∀ (f:FuncId) (c:List AV),(AV.bfn f c).cells=[.bfn f c])) ∧
    ((∀ (b:Bool) (x y:AV),(match (AV.bool b:AV) with | .bool t=>some (if t=true then x else y) | _=>none)=some (if b=true then x else y))) :=
  ⟨simB1,SA,SV,SV2,SN,SR,SL,fun _ _ _=>rfl⟩
theorem ZV:((AV.ones []=true)∧(∀ (a:AV) (l:List AV),AV.ones (a :: l)=(a.one && AV.ones l))∧(∀ (k:IntKind) (n:Int),(AV.int k n).one=true)∧(∀ b:Bool,(AV.bool b).one=true)∧(∀ s:ByteArray,(AV.str s).one=true)∧(∀ (k:Nat) (l:List AV),(AV.sl k l).one=true)∧(AV.esl.one=true)∧(AV.nilf.one=true) ∧
    (∀ (f:FuncId) (c:List AV),(AV.func f c).one=true)∧(∀ (b n off:Nat),(AV.ptr b n off).one=true)∧(∀ (c:List AV) (off:Nat),(AV.iptr c off).one=true)∧(∀ (b n sz off len:Nat),(AV.msl b n sz off len).one=true)∧(∀ b:Nat,(AV.yld b).one=true)∧(∀ b:Nat,(AV.mp b).one=true)∧(AV.nilp.one=true)∧(∀ l:List AV,l.all AV.one=AV.ones l))∧(∀ l:List Int,(encV l).one=true)∧(∀ l:List (List Int),(encVV l).one=true)∧(∀ b:Bool,(b && b)=b)∧((false=true)=False)∧(∀ a:Int,-9223372036854775808 ≤ a→a ≤ 9223372036854775807→IntKind.wrap .i64 a=a) ∧
    (∀ (l:List Int) (k:IntKind) (n:Int),aixS 1 (encV l) (.int k n)=if 0 ≤ n∧n < l.length then some (.iptr [.int .i64 (l.getD n.toNat default)] 0) else none)∧(∀ (l:List (List Int)) (k:IntKind) (n:Int),aixS 1 (encVV l) (.int k n)=if 0 ≤ n∧n < l.length then some (.iptr [encV (l.getD n.toNat default)] 0) else none) ∧
    (∀ l:List Int,alenS (encV l)=some (.int .i64 l.length))∧(∀ l:List (List Int),alenS (encVV l)=some (.int .i64 l.length))∧(∀ n:Nat,(n:Int).toNat=n)∧(∀ (α β:Type) (f:α→β) (l:List α),(l.map f).length=l.length) ∧
    (∀ (sz b m off len:Nat) (k:IntKind) (n:Int),aixS sz (.msl b m sz off len) (.int k n)=if 0 ≤ n∧n < len then some (.ptr b m (off + n.toNat * sz)) else none)∧(∀ (α:Type) (_:Inhabited α) (f:α→AV) (l:List α) (k:Nat),k < l.length→(l.map f)[k]?=some (f (l.getD k default)))∧(∀ n:Nat,n * 1=n) :=
  ⟨SO,fun _=>rfl,fun _=>rfl,Bool.and_self,Bool.false_eq_true,fun _=>wrap64,fun _ _ _=>aixS_encV,fun _ _ _=>aixS_encVV,fun _=>alenS_encV,fun _=>alenS_encVV,Int.toNat_natCast,fun _ _ _ _=>List.length_map _,fun _ _ _ _ _ _ _=>aixS_msl,fun _ _ _ _ _ h=>getElem?_map_lt h,Nat.mul_one⟩
theorem ZB:((!true)=false)∧((!false)=true)∧(∀ b:Bool,((!b)=true)=(b=false))∧(∀ b:Bool,((!b)=false)=(b=true))∧(∀ b:Bool,(!!b)=b)∧(∀ (p:Prop) (_:Decidable p),(decide p=true)=p)∧(∀ (p:Prop) (_:Decidable p),(decide p=false)=¬p) :=
  ⟨rfl,rfl,fun b=>by cases b <;> simp,fun b=>by cases b <;> simp,Bool.not_not,fun p _=>by simp,fun p _=>by simp⟩
theorem ZG:((∀ (T:Tm) (n:Nat),ov T (.t n)=T n)∧(∀ (T:Tm) (v:AV),ov T (.c v)=v)∧(∀ (T:Tm) (d t:Nat) (v:AV),upd T d v t=if t=d then v else T t)∧(∀ (T:Tm) (d:Nat) (v:AV),updo T (some d) v=upd T d v) ∧
    (∀ (T:Tm) (v:AV),updo T none v=T)∧(∀ (x:AV) (l:List AV),T0 (x :: l) 0=x)∧(∀ (x:AV) (l:List AV) (n:Nat),T0 (x :: l) (n + 1)=T0 l n)∧(∀ n:Nat,T0 [] n=.undef) ∧
    (∀ (d t:Nat) (v:AV) (l:List (Nat × AV)),tl ((d,v) :: l) t=if t=d then v else tl l t)∧(∀ t:Nat,tl [] t=.undef) ∧
    (∀ (T:Tm) (t:Nat) (ts:List Nat) (x:AV) (xs:List AV),updl T (t :: ts) (x :: xs)=updl (upd T t x) ts xs)∧(∀ (T:Tm) (xs:List AV),updl T [] xs=T))∧(∀ a:Int,-9223372036854775808 ≤ a→a ≤ 9223372036854775807→IntKind.wrap .i64 a=a)∧(∀ a b:Nat,((a + b:Nat):Int)=(a:Int) + (b:Int))∧(((1:Nat):Int)=1)∧(((0:Nat):Int)=0)∧(∀ p:Prop,(p∧True)=p)∧(∀ p:Prop,(p∧p)=p) :=
  ⟨SA,fun _=>wrap64,Int.natCast_add,rfl,rfl,and_true,and_self⟩
end Go.Abs
namespace Go.Abs
theorem loopA {P:Program} {b:C2} {T:Tm} {H:Hp} {nx:Nat} {K:CP} (L:Nat→List (Nat × AV)) (n:Nat) (p:Nat→Prop) (hT:agr T (L 0))
    (step:∀ k,k ≤ n→(∀ i,i < k→p i)→awp2 P b (tl (L k)) H nx fun e T H' nx'=>athen e (k < n∧p k∧agr T (L (k + 1))∧H'=H∧nx'=nx) (K e T H' nx')):aloop (awp2 P b) T H nx K:=by
  refine loop0 (X:=Nat) L (fun k=>k ≤ n∧∀ i,i < k→p i) (fun k=>n - k) 0 ⟨Nat.zero_le _,fun i h=>(by omega)⟩ hT ?_
  rintro k ⟨h1,h2⟩
  refine awp2_mono b (step k h1 h2) (fun e T H' nx' h=>?_)
  cases e with
  | normal =>
    obtain ⟨g1,g2,g3,g4,g5⟩:=h
    refine ⟨k + 1,⟨by omega,fun i hi=>?_⟩,by omega,g3,g4,g5⟩
    rcases Nat.lt_succ_iff_lt_or_eq.1 hi with h | rfl
    · exact h2 i h
    · exact g2
  | exit i=>exact h
  | ret=>exact h
theorem all_true {α:Type} [Inhabited α] {l:List α} {p:α→Bool} (h:∀ i,i < l.length→p (l.getD i default)=true):l.all p=true:=by
  rw [List.all_eq_true]
  intro x hx
  obtain ⟨i,hi,e⟩:=List.getElem_of_mem hx
  have:=h i hi
  rwa [show l.getD i default=x by simp [List.getD,hi,e]] at this
theorem all_false {α:Type} [Inhabited α] {l:List α} {p:α→Bool} {k:Nat} (hk:k < l.length) (h:p (l.getD k default)=false):l.all p=false:=by
  rw [Bool.eq_false_iff,ne_eq,List.all_eq_true]
  intro hh
  have:=hh _ (mem_getD hk)
  rw [h] at this; cases this
theorem any_true {α:Type} [Inhabited α] {l:List α} {p:α→Bool} {k:Nat} (hk:k < l.length) (h:p (l.getD k default)=true):l.any p=true:=List.any_eq_true.2 ⟨_,mem_getD hk,h⟩
theorem any_false {α:Type} [Inhabited α] {l:List α} {p:α→Bool} (h:∀ i,i < l.length→p (l.getD i default)=false):l.any p=false:=by
  rw [List.any_eq_false]
  intro x hx
  obtain ⟨i,hi,e⟩:=List.getElem_of_mem hx
  have:=h i hi
  rw [show l.getD i default=x by simp [List.getD,hi,e]] at this
  simp [this]
def encL {α:Type} (sz:Nat) (f:α→AV) (l:List α):AV:=.sl sz (l.map f)
section
variable {α:Type} {sz:Nat} {f:α→AV} {l:List α}
end
end Go.Abs
namespace Go.Abs
theorem wrapU64 {a:Int} (h1:0 ≤ a) (h2:a < 18446744073709551616):IntKind.wrap .u64 a=a:=by
  simp only [IntKind.wrap,IntKind.bits,IntKind.signed]; simp; omega
theorem wrapU8 {a:Int}:IntKind.wrap .u8 a=a % 256:=by
  simp only [IntKind.wrap,IntKind.bits,IntKind.signed]; simp
theorem bits_nat {k:IntKind} {a:Nat} (h:a < 2 ^ k.bits):(BitVec.ofInt k.bits (a:Int)).toNat=a:=by
  rw [BitVec.toNat_ofInt]
  have:((2 ^ k.bits:Nat):Int)=(2:Int) ^ k.bits:=by simp
  rw [Int.emod_eq_of_lt (by omega) (by omega)]; simp
theorem or_nat {k:IntKind} {a b:Nat} {tb tf:Bool} (ha:a < 2 ^ (k.bits - 1)) (hb:b < 2 ^ (k.bits - 1)):abin2 .or tb tf (.int k a) (.int k b)=some (.int k ((a ||| b:Nat):Int)):=by
  have h1:2 ^ (k.bits - 1) ≤ 2 ^ k.bits:=Nat.pow_le_pow_right (by omega) (by omega)
  have h2:(BitVec.ofInt k.bits (a:Int) ||| BitVec.ofInt k.bits (b:Int)).toNat=a ||| b:=by
    rw [BitVec.toNat_or,bits_nat (by omega),bits_nat (by omega)]
  show (if (k=k) then aarith .or k a b else none)=_
  rw [if_pos rfl]
  simp only [aarith,h2]
  have h3:a ||| b < 2 ^ (k.bits - 1):=Nat.or_lt_two_pow ha hb
  congr 2
  generalize a ||| b=c at h3
  cases k <;> (simp only [IntKind.bits,IntKind.wrap,IntKind.signed] at h3 ⊢; simp at h3 ⊢; omega)
theorem shr_nat {k:IntKind} {a b:Nat} {tb tf:Bool} {k':IntKind} (hb:b ≤ k.bits):abin2 .shr tb tf (.int k a) (.int k' b)=some (.int k ((a / 2 ^ b:Nat):Int)):=by
  have h:¬ ((b:Int) < 0):=by omega
  simp only [abin2,ashift,h,if_false,or_true,if_true,Int.toNat_natCast,Nat.min_eq_left hb]
  congr 2
  rw [Int.fdiv_eq_ediv_of_nonneg _ (Int.le_of_lt (Int.pow_pos (by omega)))]
  simp
theorem shl_nat {k:IntKind} {a b:Nat} {tb tf:Bool} {k':IntKind} (hb:b ≤ k.bits) (h:a * 2 ^ b < 2 ^ (k.bits - 1)):abin2 .shl tb tf (.int k a) (.int k' b)=some (.int k ((a * 2 ^ b:Nat):Int)):=by
  have h0:¬ ((b:Int) < 0):=by omega
  simp only [abin2,ashift,h0,if_false,true_or,if_true,Int.toNat_natCast,Nat.min_eq_left hb]
  congr 2
  have e:(a:Int) * 2 ^ b=((a * 2 ^ b:Nat):Int):=by simp
  rw [e]
  generalize a * 2 ^ b=c at h
  cases k <;> (simp only [IntKind.bits,IntKind.wrap,IntKind.signed] at h ⊢; simp at h ⊢; omega)
theorem quo_pos {a b:Int} {tb tf:Bool} (ha:0 ≤ a) (h2:a ≤ 9223372036854775807) (hb:0 < b):abin2 .quo tb tf (.int .i64 a) (.int .i64 b)=some (.int .i64 (a / b)):=by
  show (if (IntKind.i64=IntKind.i64) then aarith .quo .i64 a b else none)=_
  rw [if_pos rfl]
  have h3:0 ≤ a / b:=Int.ediv_nonneg ha (by omega)
  have h4:a / b ≤ a:=Int.ediv_le_self _ ha
  simp only [aarith,if_neg (show ¬ b=0 by omega),Int.tdiv_eq_ediv_of_nonneg ha]
  rw [wrap64 (by omega) (by omega)]
theorem o_callE {P:Program} {T:Tm} {H:Hp} {nx:Nat} {K:SP} {l:List Op2} {d:Option Nat} {f:Opd} {args:List Opd} {g:FuncId} {caps xs:List AV} {R:AV→Hp→Nat→Prop} (hf:ov T f=.func g caps) (ha:args.map (ov T) ++ caps=xs) (hc:Fn P g xs H nx R)
    (k:∀ r H' nx',R r H' nx'→aops2 P .text l (updo T d r) H' nx' K):aops2 P .text (⟨d,none,.call f args⟩ :: l) T H nx K:=by
  subst ha
  exact o_call hf (Fn.mono hc k)
def encS (l:List UInt8):AV:=.str ⟨l.toArray⟩
theorem encS_dat (l:List UInt8):Dat (encS l):=.str
instance datI_encS {l:List UInt8}:DatI (encS l):=⟨encS_dat l⟩
end Go.Abs
namespace Go.Abs
open Go.RowKit
variable {P:Program} {T:Tm} {H:Hp} {nx:Nat}
theorem aI {a b:Prop} (x:a) (y:b):a∧b:=⟨x,y⟩
theorem ev0 {α:Type} {a b:α} (h:a=b:=by (try simp only [simB0,ZA,Nat.reduceEqDiff,↓reduceIte,Nat.reduceAdd,Nat.reduceLeDiff]); (try with_reducible rfl); first | done | fail):a=b:=h
theorem evZ {α:Type} {a b:α} (h:a=b:=by (try simp only [simB0,ZA,Nat.reduceEqDiff,↓reduceIte,Nat.reduceAdd,Nat.reduceLeDiff,zz]); (try with_reducible rfl); first | done | fail):a=b:=h
theorem evY {α:Type} {a b:α} (h:a=b:=by (try simp (disch:=omega) only [simB2,ZA,Nat.reduceEqDiff,↓reduceIte,Nat.reduceAdd,Nat.reduceLeDiff,zz]); (try with_reducible rfl); first | done | fail):a=b:=h
theorem ag0 {T:Tm} {l:List (Nat × AV)} (h:agr T l:=by simp (disch:=omega) only [agr,ZG,Nat.reduceEqDiff,↓reduceIte]; first | done | fail):agr T l:=h
theorem agZ {T:Tm} {l:List (Nat × AV)} (h:agr T l:=by simp (disch:=omega) only [agr,ZG,Nat.reduceEqDiff,↓reduceIte,zz]; first | done | fail):agr T l:=h
theorem vZ {dm:DM} {K:SP} {l:List Op2} {d:Option Nat} {i:Ins} {r:AV} (k:aops2 P dm l (updo T d r) H nx K) (hi:ic i=.val:=by rfl) (hd:dm2 dm T i=true:=by rfl) (h:ival T H i=some r:=by (try simp (disch:=omega) only [simB0,ZA,Nat.reduceEqDiff,↓reduceIte,Nat.reduceAdd,Nat.reduceLeDiff,ZV,reduceCtorEq,zz]); first | with_reducible rfl | (apply s_ite; (focus omega); with_reducible rfl)):aops2 P dm (⟨d,none,i⟩ :: l) T H nx K:=o_val hi hd h k
theorem cZ {dm:DM} {K:SP} {l:List Op2} {d:Option Nat} {f:Opd} {args:List Opd} {g:FuncId} {caps xs:List AV} {r:AV} (k:aops2 P dm l (updo T d r) H nx K) (hf:ov T f=.func g caps:=by (try simp only [simB0,ZA,Nat.reduceEqDiff,↓reduceIte,Nat.reduceAdd,Nat.reduceLeDiff,zz]); (try with_reducible rfl); first | done | fail) (ha:args.map (ov T) ++ caps=xs:=by (try simp only [simB0,ZA,Nat.reduceEqDiff,↓reduceIte,Nat.reduceAdd,Nat.reduceLeDiff,zz]); (try with_reducible rfl); first | done | fail) (hp:Pure P g xs r) (hs:SnapArgs H xs xs r:=by (first | refine snap_plain ?_ rfl | apply snap_data); (repeat' (first | exact snapL_nil | apply snapL_i | (apply snapL_dat; (focus with_reducible assumption)))); first | done | fail):aops2 P dm (⟨d,none,.call f args⟩ :: l) T H nx K:=o_callD hf ha hp hs k
theorem alZ {dm:DM} {K:SP} {l:List Op2} {d:Option Nat} {z:AV} {cs:List AV} (k:aops2 P dm l (updo T d (.ptr nx cs.length 0)) (hupd H nx cs) (nx + 1) K) (hd:dm2 dm T (.alloc z)=true:=by rfl) (hc:z.cells=cs:=by (try simp only [simB0,ZA,Nat.reduceEqDiff,↓reduceIte,Nat.reduceAdd,Nat.reduceLeDiff,zz]); (try with_reducible rfl); first | done | fail) (ho:AV.ones cs=true:=by simp only [SO,Bool.and_self,one_encV,one_encVV,zz]; first | done | fail):aops2 P dm (⟨d,none,.alloc z⟩ :: l) T H nx K:=e_alloc hd hc ho k
theorem bxZ {dm:DM} {K:SP} {l:List Op2} {d:Option Nat} {x:Opd} {v:AV} {cs:List AV} (k:aops2 P dm l (updo T d (.ptr nx cs.length 0)) (hupd H nx cs) (nx + 1) K) (hd:dm2 dm T (.box x)=true:=by rfl) (hx:ov T x=v:=by (try simp only [simB0,ZA,Nat.reduceEqDiff,↓reduceIte,Nat.reduceAdd,Nat.reduceLeDiff,zz]); (try with_reducible rfl); first | done | fail) (hc:v.cells=cs:=by (try simp only [simB0,ZA,Nat.reduceEqDiff,↓reduceIte,Nat.reduceAdd,Nat.reduceLeDiff,zz]); (try with_reducible rfl); first | done | fail) (ho:AV.ones cs=true:=by simp only [SO,Bool.and_self,one_encV,one_encVV,zz]; first | done | fail):aops2 P dm (⟨d,none,.box x⟩ :: l) T H nx K:=e_box hd hx hc ho k
theorem stZ {dm:DM} {K:SP} {l:List Op2} {d:Option Nat} {sz:Nat} {p x:Opd} {b n off:Nat} {v:AV} {cs vs:List AV} (k:aops2 P dm l (updo T d (.tup [])) (hupd H b (lput cs off vs)) nx K) (hd:dm2 dm T (.st sz p x)=true:=by rfl) (hp:ov T p=.ptr b n off:=by (try simp only [simB0,ZA,Nat.reduceEqDiff,↓reduceIte,Nat.reduceAdd,Nat.reduceLeDiff,zz]); (try with_reducible rfl); first | done | fail) (hx:ov T x=v:=by (try simp only [simB0,ZA,Nat.reduceEqDiff,↓reduceIte,Nat.reduceAdd,Nat.reduceLeDiff,zz]); (try with_reducible rfl); first | done | fail) (hb:H b=some cs:=by (try simp only [simB0,ZA,Nat.reduceEqDiff,↓reduceIte,Nat.reduceAdd,Nat.reduceLeDiff,zz]); (try with_reducible rfl); first | done | fail) (hc:v.cells=vs:=by (try simp only [simB0,ZA,Nat.reduceEqDiff,↓reduceIte,Nat.reduceAdd,Nat.reduceLeDiff,zz]); (try with_reducible rfl); first | done | fail) (ho:AV.ones vs=true:=by simp only [SO,Bool.and_self,one_encV,one_encVV,zz]; first | done | fail) (hn:cs.length=n:=by (try simp only [SL,Nat.reduceAdd,Nat.reduceMul,List.length_map]); first | done | omega) (hl:vs.length=sz:=by (try simp only [SL,Nat.reduceAdd,Nat.reduceMul,List.length_map]); first | done | omega) (hf:off + sz ≤ n:=by (try simp only [SL,Nat.reduceAdd,Nat.reduceMul,List.length_map]); first | done | omega):aops2 P dm (⟨d,none,.st sz p x⟩ :: l) T H nx K:=e_st hd hp hx hb hc ho hn hl hf k
theorem blZ {dm:DM} {K:SP} {l:List Op2} {d:Option Nat} {sz len:Nat} {z:List AV} {parts:List (Nat × Nat × Opd)} {pv:List (Nat × Nat × AV)} {cs:List AV} (k:aops2 P dm l (updo T d (.msl nx cs.length sz 0 len)) (hupd H nx cs) (nx + 1) K) (hd:dm2 dm T (.bldS sz len z parts)=true:=by rfl) (hl:len ≠ 0:=by exact Nat.succ_ne_zero _) (hp:parts.map (fun p=>(p.1,p.2.1,ov T p.2.2))=pv:=by (try simp only [simB0,ZA,Nat.reduceEqDiff,↓reduceIte,Nat.reduceAdd,Nat.reduceLeDiff,zz]); (try with_reducible rfl); first | done | fail) (hc:afill2 (zcells (.agg z) len) pv=some cs:=by (try simp only [simB0,ZA,Nat.reduceEqDiff,↓reduceIte,Nat.reduceAdd,Nat.reduceLeDiff,SO,Bool.and_self,one_encV,one_encVV,zz]); (try with_reducible rfl); first | done | fail):aops2 P dm (⟨d,none,.bldS sz len z parts⟩ :: l) T H nx K:=e_bld hd hl hp hc k
theorem gTZ {dm:DM} {K:SP} {l:List Op2} {d:Option Nat} {i:Ins} {t:Nat} {w:Bool} (k:aops2 P dm (⟨d,none,i⟩ :: l) T H nx K) (h:T t=.bool w:=by simp only [simB0,ZA,Nat.reduceEqDiff,↓reduceIte,Nat.reduceAdd,Nat.reduceLeDiff,zz]; first | done | fail):aops2 P dm (⟨d,some (t,w),i⟩ :: l) T H nx K:=o_gT h k
theorem gFZ {dm:DM} {K:SP} {l:List Op2} {d:Option Nat} {i:Ins} {t:Nat} {w:Bool} (k:aops2 P dm l (updo T d (.tup [])) H nx K) (h:T t=.bool (!w) ∨ T t=.tup []:=by simp only [simB0,ZA,Nat.reduceEqDiff,↓reduceIte,Nat.reduceAdd,Nat.reduceLeDiff,or_true,true_or,zz]; first | done | fail):aops2 P dm (⟨d,some (t,w),i⟩ :: l) T H nx K:=o_gF h k
theorem cTZ {K:CP} {c:Opd} {x y:C2} (h1:awp2 P x T H nx K) (hc:ov T c=.bool true:=by simp only [simB0,ZA,Nat.reduceEqDiff,↓reduceIte,Nat.reduceAdd,Nat.reduceLeDiff,zz]; first | done | fail):awp2 P (.cond c x y) T H nx K:=w_condT hc h1
theorem cFZ {K:CP} {c:Opd} {x y:C2} (h2:awp2 P y T H nx K) (hc:ov T c=.bool false:=by simp only [simB0,ZA,Nat.reduceEqDiff,↓reduceIte,Nat.reduceAdd,Nat.reduceLeDiff,zz]; first | done | fail):awp2 P (.cond c x y) T H nx K:=w_condF hc h2
theorem gBZ {dm:DM} {K:SP} {l:List Op2} {d:Option Nat} {i:Ins} {t:Nat} {w b:Bool} (k1:b=w→aops2 P dm (⟨d,none,i⟩ :: l) (upd T t (.bool w)) H nx K) (k2:b=!w→aops2 P dm l (updo (upd T t (.bool (!w))) d (.tup [])) H nx K) (h:T t=.bool b:=by (try simp only [simB0,ZA,Nat.reduceEqDiff,↓reduceIte,Nat.reduceAdd,Nat.reduceLeDiff,zz]); (try with_reducible rfl); first | done | fail):aops2 P dm (⟨d,some (t,w),i⟩ :: l) T H nx K:=o_gB h k1 k2
theorem cdZ {K:CP} {c:Opd} {x y:C2} {b:Bool} (h1:b=true→awp2 P x T H nx K) (h2:b=false→awp2 P y T H nx K) (hc:ov T c=.bool b:=by (try simp only [simB0,ZA,Nat.reduceEqDiff,↓reduceIte,Nat.reduceAdd,Nat.reduceLeDiff,zz]); (try with_reducible rfl); first | done | fail):awp2 P (.cond c x y) T H nx K:=w_cond hc h1 h2
theorem r1Z {K:AV→Prop} {a:RV} {x:AV} (h:K x) (ha:rv T H a=some x:=by simp only [rv,simB0,ZA,Nat.reduceEqDiff,↓reduceIte,Nat.reduceAdd,Nat.reduceLeDiff,zz]; with_reducible rfl):res1 T H K [a]:=r_1 ha h
theorem r2Z {K:AV→Prop} {a b:RV} {x y:AV} (h:K (.tup [x,y])) (ha:rv T H a=some x:=by simp only [rv,simB0,ZA,Nat.reduceEqDiff,↓reduceIte,Nat.reduceAdd,Nat.reduceLeDiff,zz]; with_reducible rfl) (hb:rv T H b=some y:=by simp only [rv,simB0,ZA,Nat.reduceEqDiff,↓reduceIte,Nat.reduceAdd,Nat.reduceLeDiff,zz]; with_reducible rfl):res1 T H K [a,b]:=r_2 ha hb h
theorem vY {dm:DM} {K:SP} {l:List Op2} {d:Option Nat} {i:Ins} {r:AV} (k:aops2 P dm l (updo T d r) H nx K) (hi:ic i=.val:=by rfl) (hd:dm2 dm T i=true:=by first | rfl | (simp (disch:=omega) only [dm2,oldP,newP,simB2,ZA,Nat.reduceEqDiff,↓reduceIte,Nat.reduceAdd,Nat.reduceLeDiff,zz,decide_eq_true_eq]; first | done | omega)) (h:ival T H i=some r:=by (try simp (disch:=omega) only [simB2,ZA,Nat.reduceEqDiff,↓reduceIte,Nat.reduceAdd,Nat.reduceLeDiff,ZV,reduceCtorEq,zz]); first | with_reducible rfl | (apply s_ite; (focus omega); with_reducible rfl)):aops2 P dm (⟨d,none,i⟩ :: l) T H nx K:=o_val hi hd h k
theorem nvY {S:Hp} {K:SP} {l:List (Op2 × Nat)} {d:Option Nat} {i:Ins} {r:AV} (k:aops2S P S l (updo T d r) H nx K) (h:ival T S i=some r:=by (try simp (disch:=omega) only [simB2,ZA,Nat.reduceEqDiff,↓reduceIte,Nat.reduceAdd,Nat.reduceLeDiff,ZV,reduceCtorEq,zz]); first | with_reducible rfl | (apply s_ite; (focus omega); with_reducible rfl)):aops2S P S ((⟨d,none,i⟩,0) :: l) T H nx K:=n_val h k
theorem cY {dm:DM} {K:SP} {l:List Op2} {d:Option Nat} {f:Opd} {args:List Opd} {g:FuncId} {caps xs:List AV} {r:AV} (k:aops2 P dm l (updo T d r) H nx K) (hf:ov T f=.func g caps:=by (try simp (disch:=omega) only [simB2,ZA,Nat.reduceEqDiff,↓reduceIte,Nat.reduceAdd,Nat.reduceLeDiff,zz]); (try with_reducible rfl); first | done | fail) (ha:args.map (ov T) ++ caps=xs:=by (try simp (disch:=omega) only [simB2,ZA,Nat.reduceEqDiff,↓reduceIte,Nat.reduceAdd,Nat.reduceLeDiff,zz]); (try with_reducible rfl); first | done | fail) (hp:Pure P g xs r) (hs:SnapArgs H xs xs r:=by (first | refine snap_plain ?_ rfl | apply snap_data); (repeat' (first | exact snapL_nil | apply snapL_i | (apply snapL_dat; (focus with_reducible assumption)))); first | done | fail):aops2 P dm (⟨d,none,.call f args⟩ :: l) T H nx K:=o_callD hf ha hp hs k
theorem alY {dm:DM} {K:SP} {l:List Op2} {d:Option Nat} {z:AV} {cs:List AV} (k:aops2 P dm l (updo T d (.ptr nx cs.length 0)) (hupd H nx cs) (nx + 1) K) (hd:dm2 dm T (.alloc z)=true:=by first | rfl | (simp (disch:=omega) only [dm2,oldP,newP,simB2,ZA,Nat.reduceEqDiff,↓reduceIte,Nat.reduceAdd,Nat.reduceLeDiff,zz,decide_eq_true_eq]; first | done | omega)) (hc:z.cells=cs:=by (try simp (disch:=omega) only [simB2,ZA,Nat.reduceEqDiff,↓reduceIte,Nat.reduceAdd,Nat.reduceLeDiff,zz]); (try with_reducible rfl); first | done | fail) (ho:AV.ones cs=true:=by simp (disch:=omega) only [SO,Bool.and_self,one_encV,one_encVV,zz]; first | done | fail):aops2 P dm (⟨d,none,.alloc z⟩ :: l) T H nx K:=e_alloc hd hc ho k
theorem stY {dm:DM} {K:SP} {l:List Op2} {d:Option Nat} {sz:Nat} {p x:Opd} {b n off:Nat} {v:AV} {cs vs:List AV} (k:aops2 P dm l (updo T d (.tup [])) (hupd H b (lput cs off vs)) nx K) (hd:dm2 dm T (.st sz p x)=true:=by first | rfl | (simp (disch:=omega) only [dm2,oldP,newP,simB2,ZA,Nat.reduceEqDiff,↓reduceIte,Nat.reduceAdd,Nat.reduceLeDiff,zz,decide_eq_true_eq]; first | done | omega)) (hp:ov T p=.ptr b n off:=by (try simp (disch:=omega) only [simB2,ZA,Nat.reduceEqDiff,↓reduceIte,Nat.reduceAdd,Nat.reduceLeDiff,zz]); (try with_reducible rfl); first | done | fail) (hx:ov T x=v:=by (try simp (disch:=omega) only [simB2,ZA,Nat.reduceEqDiff,↓reduceIte,Nat.reduceAdd,Nat.reduceLeDiff,zz]); (try with_reducible rfl); first | done | fail) (hb:H b=some cs:=by (try simp (disch:=omega) only [simB2,ZA,Nat.reduceEqDiff,↓reduceIte,Nat.reduceAdd,Nat.reduceLeDiff,zz]); (try with_reducible rfl); first | done | fail) (hc:v.cells=vs:=by (try simp (disch:=omega) only [simB2,ZA,Nat.reduceEqDiff,↓reduceIte,Nat.reduceAdd,Nat.reduceLeDiff,zz]); (try with_reducible rfl); first | done | fail) (ho:AV.ones vs=true:=by simp (disch:=omega) only [SO,Bool.and_self,one_encV,one_encVV,zz]; first | done | fail) (hn:cs.length=n:=by (try simp only [SL,Nat.reduceAdd,Nat.reduceMul,List.length_map]); first | done | omega) (hl:vs.length=sz:=by (try simp only [SL,Nat.reduceAdd,Nat.reduceMul,List.length_map]); first | done | omega) (hf:off + sz ≤ n:=by (try simp only [SL,Nat.reduceAdd,Nat.reduceMul,List.length_map]); first | done | omega):aops2 P dm (⟨d,none,.st sz p x⟩ :: l) T H nx K:=e_st hd hp hx hb hc ho hn hl hf k
theorem blY {dm:DM} {K:SP} {l:List Op2} {d:Option Nat} {sz len:Nat} {z:List AV} {parts:List (Nat × Nat × Opd)} {pv:List (Nat × Nat × AV)} {cs:List AV} (k:aops2 P dm l (updo T d (.msl nx cs.length sz 0 len)) (hupd H nx cs) (nx + 1) K) (hd:dm2 dm T (.bldS sz len z parts)=true:=by first | rfl | (simp (disch:=omega) only [dm2,oldP,newP,simB2,ZA,Nat.reduceEqDiff,↓reduceIte,Nat.reduceAdd,Nat.reduceLeDiff,zz,decide_eq_true_eq]; first | done | omega)) (hl:len ≠ 0:=by exact Nat.succ_ne_zero _) (hp:parts.map (fun p=>(p.1,p.2.1,ov T p.2.2))=pv:=by (try simp (disch:=omega) only [simB2,ZA,Nat.reduceEqDiff,↓reduceIte,Nat.reduceAdd,Nat.reduceLeDiff,zz]); (try with_reducible rfl); first | done | fail) (hc:afill2 (zcells (.agg z) len) pv=some cs:=by (try simp (disch:=omega) only [simB2,ZA,Nat.reduceEqDiff,↓reduceIte,Nat.reduceAdd,Nat.reduceLeDiff,SO,Bool.and_self,one_encV,one_encVV,zz]); (try with_reducible rfl); first | done | fail):aops2 P dm (⟨d,none,.bldS sz len z parts⟩ :: l) T H nx K:=e_bld hd hl hp hc k
theorem gTY {dm:DM} {K:SP} {l:List Op2} {d:Option Nat} {i:Ins} {t:Nat} {w:Bool} (k:aops2 P dm (⟨d,none,i⟩ :: l) T H nx K) (h:T t=.bool w:=by simp (disch:=omega) only [simB2,ZA,Nat.reduceEqDiff,↓reduceIte,Nat.reduceAdd,Nat.reduceLeDiff,zz]; first | done | fail):aops2 P dm (⟨d,some (t,w),i⟩ :: l) T H nx K:=o_gT h k
theorem gFY {dm:DM} {K:SP} {l:List Op2} {d:Option Nat} {i:Ins} {t:Nat} {w:Bool} (k:aops2 P dm l (updo T d (.tup [])) H nx K) (h:T t=.bool (!w) ∨ T t=.tup []:=by simp (disch:=omega) only [simB2,ZA,Nat.reduceEqDiff,↓reduceIte,Nat.reduceAdd,Nat.reduceLeDiff,or_true,true_or,zz]; first | done | fail):aops2 P dm (⟨d,some (t,w),i⟩ :: l) T H nx K:=o_gF h k
theorem cTY {K:CP} {c:Opd} {x y:C2} (h1:awp2 P x T H nx K) (hc:ov T c=.bool true:=by simp (disch:=omega) only [simB2,ZA,Nat.reduceEqDiff,↓reduceIte,Nat.reduceAdd,Nat.reduceLeDiff,zz]; first | done | fail):awp2 P (.cond c x y) T H nx K:=w_condT hc h1
theorem cFY {K:CP} {c:Opd} {x y:C2} (h2:awp2 P y T H nx K) (hc:ov T c=.bool false:=by simp (disch:=omega) only [simB2,ZA,Nat.reduceEqDiff,↓reduceIte,Nat.reduceAdd,Nat.reduceLeDiff,zz]; first | done | fail):awp2 P (.cond c x y) T H nx K:=w_condF hc h2
theorem gBY {dm:DM} {K:SP} {l:List Op2} {d:Option Nat} {i:Ins} {t:Nat} {w b:Bool} (k1:b=w→aops2 P dm (⟨d,none,i⟩ :: l) (upd T t (.bool w)) H nx K) (k2:b=!w→aops2 P dm l (updo (upd T t (.bool (!w))) d (.tup [])) H nx K) (h:T t=.bool b:=by (try simp (disch:=omega) only [simB2,ZA,Nat.reduceEqDiff,↓reduceIte,Nat.reduceAdd,Nat.reduceLeDiff,zz]); (try with_reducible rfl); first | done | fail):aops2 P dm (⟨d,some (t,w),i⟩ :: l) T H nx K:=o_gB h k1 k2
theorem cdY {K:CP} {c:Opd} {x y:C2} {b:Bool} (h1:b=true→awp2 P x T H nx K) (h2:b=false→awp2 P y T H nx K) (hc:ov T c=.bool b:=by (try simp (disch:=omega) only [simB2,ZA,Nat.reduceEqDiff,↓reduceIte,Nat.reduceAdd,Nat.reduceLeDiff,zz]); (try with_reducible rfl); first | done | fail):awp2 P (.cond c x y) T H nx K:=w_cond hc h1 h2
theorem r1Y {K:AV→Prop} {a:RV} {x:AV} (h:K x) (ha:rv T H a=some x:=by simp (disch:=omega) only [rv,simB2,ZA,Nat.reduceEqDiff,↓reduceIte,Nat.reduceAdd,Nat.reduceLeDiff,zz]; with_reducible rfl):res1 T H K [a]:=r_1 ha h
theorem r2Y {K:AV→Prop} {a b:RV} {x y:AV} (h:K (.tup [x,y])) (ha:rv T H a=some x:=by simp (disch:=omega) only [rv,simB2,ZA,Nat.reduceEqDiff,↓reduceIte,Nat.reduceAdd,Nat.reduceLeDiff,zz]; with_reducible rfl) (hb:rv T H b=some y:=by simp (disch:=omega) only [rv,simB2,ZA,Nat.reduceEqDiff,↓reduceIte,Nat.reduceAdd,Nat.reduceLeDiff,zz]; with_reducible rfl):res1 T H K [a,b]:=r_2 ha hb h
end Go.Abs
namespace Go.Abs
open Go.RowKit
inductive PT (α:Type) where
  | leaf
  | node (v:Option α) (l r:PT α)
def PT.get {α:Type}:PT α→Nat→Option α
  | .leaf,_=>none
  | .node v l r,n=>match n with
    | 0=>v
    | n + 1=>match n % 2 with
      | 0=>l.get (n / 2)
      | _ + 1=>r.get (n / 2)
def PT.set {α:Type}:Nat→PT α→Nat→Option α→Option (PT α)
  | 0,_,_,_=>none
  | k + 1,t,n,x=>match t with
    | .leaf=>match n with
      | 0=>some (.node x .leaf .leaf)
      | n + 1=>match n % 2 with
        | 0=>match PT.set k .leaf (n / 2) x with
          | some l=>some (.node none l .leaf)
          | none=>none
        | _ + 1=>match PT.set k .leaf (n / 2) x with
          | some r=>some (.node none .leaf r)
          | none=>none
    | .node v l r=>match n with
      | 0=>some (.node x l r)
      | n + 1=>match n % 2 with
        | 0=>match PT.set k l (n / 2) x with
          | some l=>some (.node v l r)
          | none=>none
        | _ + 1=>match PT.set k r (n / 2) x with
          | some r=>some (.node v l r)
          | none=>none
theorem PT.get_even {α:Type} {v:Option α} {l r:PT α} {n:Nat} (h:n % 2=0):(PT.node v l r).get (n + 1)=l.get (n / 2):=by
  simp only [PT.get,h]
theorem PT.get_odd {α:Type} {v:Option α} {l r:PT α} {n:Nat} (h:n % 2=1):(PT.node v l r).get (n + 1)=r.get (n / 2):=by
  simp only [PT.get,h]
theorem PT.get_set {α:Type}:∀ (k:Nat) {t t':PT α} {n:Nat} {x:Option α},PT.set k t n x=some t'→∀ m,t'.get m=if m=n then x else t.get m
  | 0,_,_,_,_,h=>by cases h
  | k + 1,t,t',n,x,h=>by
    intro m
    have two:∀ a:Nat,a % 2=0 ∨ a % 2=1:=fun a=>by omega
    cases t with
    | leaf =>
      cases n with
      | zero =>
        cases h
        cases m with
        | zero=>rfl
        | succ m =>
          rw [if_neg (by omega)]
          rcases two m with e | e
          · rw [get_even e]; rfl
          · rw [get_odd e]; rfl
      | succ n =>
        rcases two n with en | en
        · simp only [PT.set,en] at h
          split at h
          · rename_i l hl
            cases h
            have ih:=PT.get_set k hl
            cases m with
            | zero=>rw [if_neg (by omega)]; rfl
            | succ m =>
              rcases two m with e | e
              · rw [get_even e,ih]
                by_cases hh:m / 2=n / 2
                · rw [if_pos hh,if_pos (by omega)]
                · rw [if_neg hh,if_neg (by omega)]; rfl
              · rw [get_odd e,if_neg (by omega)]; rfl
          · cases h
        · simp only [PT.set,en] at h
          split at h
          · rename_i l hl
            cases h
            have ih:=PT.get_set k hl
            cases m with
            | zero=>rw [if_neg (by omega)]; rfl
            | succ m =>
              rcases two m with e | e
              · rw [get_even e,if_neg (by omega)]; rfl
              · rw [get_odd e,ih]
                by_cases hh:m / 2=n / 2
                · rw [if_pos hh,if_pos (by omega)]
                · rw [if_neg hh,if_neg (by omega)]; rfl
          · cases h
    | node v l r =>
      cases n with
      | zero =>
        cases h
        cases m with
        | zero=>rfl
        | succ m =>
          rw [if_neg (by omega)]
          rcases two m with e | e
          · rw [get_even e,get_even e]
          · rw [get_odd e,get_odd e]
      | succ n =>
        rcases two n with en | en
        · simp only [PT.set,en] at h
          split at h
          · rename_i l' hl
            cases h
            have ih:=PT.get_set k hl
            cases m with
            | zero=>rw [if_neg (by omega)]; rfl
            | succ m =>
              rcases two m with e | e
              · rw [get_even e,ih,get_even e]
                by_cases hh:m / 2=n / 2
                · rw [if_pos hh,if_pos (by omega)]
                · rw [if_neg hh,if_neg (by omega)]
              · rw [get_odd e,if_neg (by omega),get_odd e]
          · cases h
        · simp only [PT.set,en] at h
          split at h
          · rename_i l' hl
            cases h
            have ih:=PT.get_set k hl
            cases m with
            | zero=>rw [if_neg (by omega)]; rfl
            | succ m =>
              rcases two m with e | e
              · rw [get_even e,if_neg (by omega),get_even e]
              · rw [get_odd e,ih,get_odd e]
                by_cases hh:m / 2=n / 2
                · rw [if_pos hh,if_pos (by omega)]
                · rw [if_neg hh,if_neg (by omega)]
          · cases h
inductive BC where
  | cells (cs:List AV)
  | mark (e:Option AEx)
abbrev TT:=PT AV
abbrev HT:=PT BC
abbrev LV:=Nat→Option AEx→List AV
def bcL (L:LV) (n:Nat):Option BC→Option (List AV)
  | some (.cells cs)=>some cs
  | some (.mark e)=>some (L n e)
  | none=>none
def bc0:Option BC→Option (List AV)
  | some (.cells cs)=>some cs
  | _=>none
def toT (t:TT):Tm:=fun n=>(t.get n).getD .undef
def toH (L:LV) (t:HT):Hp:=fun n=>bcL L n (t.get n)
def toH0 (t:HT):Hp:=fun n=>bc0 (t.get n)
def LIM:Nat:=24
theorem toH0_sub {L:LV} {t:HT}:Sub (toH0 t) (toH L t):=fun b cs h=>by
  unfold toH0 at h
  unfold toH
  cases hg:t.get b with
  | none=>rw [hg] at h; cases h
  | some c =>
    rw [hg] at h
    cases c with
    | cells x=>exact h
    | mark e=>cases h
theorem toT_set {k:Nat} {T T':TT} {d:Nat} {v:AV} (h:PT.set k T d (some v)=some T'):toT T'=upd (toT T) d v:=by
  funext m
  simp only [toT,upd,PT.get_set k h]
  split <;> rfl
theorem toH_set {L:LV} {k:Nat} {H H':HT} {b:Nat} {cs:List AV} (h:PT.set k H b (some (.cells cs))=some H'):toH L H'=hupd (toH L H) b cs:=by
  funext m
  simp only [toH,hupd,PT.get_set k h]
  split <;> rfl
theorem toH_mark {L:LV} {k:Nat} {H H':HT} {b:Nat} {e:Option AEx} (h:PT.set k H b (some (.mark e))=some H'):toH L H'=hupd (toH L H) b (L b e):=by
  funext m
  simp only [toH,hupd,PT.get_set k h]
  split
  · rename_i hm; subst hm; rfl
  · rfl
theorem toH_del {L:LV} {k:Nat} {H H':HT} {b:Nat} (h:PT.set k H b none=some H'):toH L H'=hdel (toH L H) b:=by
  funext m
  simp only [toH,hdel,PT.get_set k h]
  split <;> rfl
def stT (T:TT) (d:Option Nat) (v:AV):Option TT:=match d with
  | none=>some T
  | some d=>PT.set LIM T d (some v)
theorem toT_st {T T':TT} {d:Option Nat} {v:AV} (h:stT T d v=some T'):toT T'=updo (toT T) d v:=by
  cases d with
  | none=>cases h; rfl
  | some d=>exact toT_set h
def ofArgsFrom:Nat→List AV→TT→Option TT
  | _,[],T=>some T
  | i,x :: l,T=>match PT.set LIM T i (some x) with
    | some T=>ofArgsFrom (i + 1) l T
    | none=>none
theorem ofArgsFrom_ok:∀ (l:List AV) (i:Nat) {T T':TT},ofArgsFrom i l T=some T'→∀ m,toT T' m=if i ≤ m∧m < i + l.length then l.getD (m - i) .undef else toT T m
  | [],i,T,T',h,m=>by cases h; rw [if_neg (by simp only [List.length_nil]; omega)]
  | x :: l,i,T,T',h,m=>by
    simp only [ofArgsFrom] at h
    split at h
    · rename_i T1 h1
      rw [ofArgsFrom_ok l (i + 1) h m,toT_set h1]
      simp only [upd,List.length_cons]
      by_cases e:m=i
      · subst e
        rw [if_neg (by omega),if_pos rfl,if_pos (by omega)]
        simp
      · by_cases e2:i + 1 ≤ m∧m < i + 1 + l.length
        · rw [if_pos e2,if_pos (by omega)]
          obtain ⟨j,rfl⟩:∃ j,m=i + 1 + j:=⟨m - (i + 1),by omega⟩
          rw [show i + 1 + j - (i + 1)=j by omega,show i + 1 + j - i=j + 1 by omega]
          rfl
        · rw [if_neg e2,if_neg e,if_neg (by omega)]
    · cases h
def ofArgs (l:List AV):Option TT:=ofArgsFrom 0 l .leaf
theorem ofArgs_ok {l:List AV} {T:TT} (h:ofArgs l=some T):toT T=T0 l:=by
  funext m
  rw [ofArgsFrom_ok l 0 h m]
  simp only [T0,Nat.zero_le,true_and,Nat.zero_add,Nat.sub_zero]
  split
  · rfl
  · rename_i hm
    have:l[m]?=none:=by simp; omega
    simp [List.getD,this,toT,PT.get]
def frN {α:Type} (n:Nat) (K:Nat→α):α:=match n with
  | 0=>K 0
  | m + 1=>K (m + 1)
def frI {α:Type} (n:Int) (K:Int→α):α:=match n with
  | .ofNat m=>frN m fun m=>K (.ofNat m)
  | .negSucc m=>frN m fun m=>K (.negSucc m)
def frV {α:Type} (x:AV) (K:AV→α):α:=match x with
  | .int k n=>frI n fun n=>K (.int k n)
  | .ptr b n off=>frN b fun b=>frN n fun n=>frN off fun off=>K (.ptr b n off)
  | .msl b n sz off len=>frN b fun b=>frN n fun n=>frN sz fun sz=>frN off fun off=>frN len fun len=>K (.msl b n sz off len)
  | x=>K x
def frL {α:Type}:List AV→(List AV→α)→α
  | [],K=>K []
  | x :: l,K=>frV x fun x=>frL l fun l=>K (x :: l)
theorem frN_eq {α:Type} {n:Nat} {K:Nat→α}:frN n K=K n:=by cases n <;> rfl
theorem frI_eq {α:Type} {n:Int} {K:Int→α}:frI n K=K n:=by cases n <;> simp [frI,frN_eq]
theorem frV_eq {α:Type} {x:AV} {K:AV→α}:frV x K=K x:=by cases x <;> simp [frV,frI_eq,frN_eq]
theorem frL_eq {α:Type}:∀ {l:List AV} {K:List AV→α},frL l K=K l
  | [],_=>rfl
  | x :: l,K=>by simp [frL,frV_eq,frL_eq]
def touch (T:Tm) (nx:Nat):Ins→Option Nat
  | .alloc _=>some nx
  | .box _=>some nx
  | .bldS _ len _ _=>if len=0 then none else some nx
  | .mks ..=>some nx
  | .st _ p _=>match ov T p with
    | .ptr b _ _=>some b
    | _=>none
  | .app _ _ s _=>match ov T s with
    | .esl=>some nx
    | .msl b _ _ _ _=>some b
    | _=>none
  | _=>none
theorem asrc_sub {S H:Hp} (hs:Sub S H) {sz:Nat} {x:AV} {r:Nat × List AV} (h:asrc sz S x=some r):asrc sz H x=some r:=by
  cases x <;> simp only [asrc] at h ⊢ <;> try (first | exact h | (cases h; done))
  rename_i b n sz' off len
  split at h
  · rename_i h0; rw [if_pos h0]; exact h
  · rename_i h0
    rw [if_neg h0]
    split at h
    · rename_i cs hb
      rw [hs b cs hb]; exact h
    · cases h
theorem ival_sub' {S H:Hp} (hs:Sub S H) {T:Tm} {i:Ins} {r:AV} (h:ival T S i=some r):ival T H i=some r:=by
  cases i <;> try exact h
  · exact rd1_sub hs h
  · rename_i k a
    simp only [ival] at h ⊢
    cases hr:rd S k (ov T a) with
    | none=>rw [hr] at h; cases h
    | some l=>rw [hr] at h; rw [rd_sub hs hr]; exact h
theorem rv_sub {S H:Hp} (hs:Sub S H) {T:Tm} {a:RV} {r:AV} (h:rv T S a=some r):rv T H a=some r:=by
  cases a with
  | t n=>exact h
  | c1 n=>exact rd1_sub hs h
  | cn n k =>
    simp only [rv] at h ⊢
    cases hr:rd S k (T n) with
    | none=>rw [hr] at h; cases h
    | some l=>rw [hr] at h; rw [rd_sub hs hr]; exact h
theorem ieff_touch {T:Tm} {S S' H:Hp} (hs:Sub S H) {nx nx':Nat} {i:Ins} {r:AV} (h:ieff T S nx i=some (r,S',nx')) :
    (touch T nx i=none→ieff T H nx i=some (r,H,nx'))∧∀ b,touch T nx i=some b→∃ cs,S'=hupd S b cs∧ieff T H nx i=some (r,hupd H b cs,nx'):=by
  cases i <;> simp only [ieff] at h ⊢ <;> try (cases h; done)
  case alloc z =>
    unfold abox at h ⊢
    split at h <;> cases h
    rename_i hz
    rw [if_pos hz]
    exact ⟨fun h=>by simp [touch] at h,fun b h=>by simp [touch] at h; subst h; exact ⟨_,rfl,rfl⟩⟩
  case box x =>
    unfold abox at h ⊢
    split at h <;> cases h
    rename_i hz
    rw [if_pos hz]
    exact ⟨fun h=>by simp [touch] at h,fun b h=>by simp [touch] at h; subst h; exact ⟨_,rfl,rfl⟩⟩
  case bldS sz len z parts =>
    split at h
    · rename_i hl
      rw [if_pos hl]
      split at h <;> cases h
      rename_i hp
      rw [if_pos hp]
      exact ⟨fun _=>rfl,fun b h=>by simp [touch,hl] at h⟩
    · rename_i hl
      rw [if_neg hl]
      split at h <;> cases h
      exact ⟨fun h=>by simp [touch,hl] at h,fun b h=>by simp [touch,hl] at h; subst h; exact ⟨_,rfl,rfl⟩⟩
  case mks sz bytes z l c =>
    split at h
    · rename_i h1 h2
      split at h <;> cases h
      rename_i hc
      rw [if_pos hc]
      exact ⟨fun h=>by simp [touch] at h,fun b h=>by simp [touch] at h; subst h; exact ⟨_,rfl,rfl⟩⟩
    · cases h
  case st k p x =>
    split at h
    · rename_i b n off hp
      split at h
      · rename_i cs hb
        split at h <;> cases h
        rename_i hc
        simp only [hs b cs hb]
        rw [if_pos hc]
        exact ⟨fun h=>by simp [touch,hp] at h,fun b h=>by simp [touch,hp] at h; subst h; exact ⟨_,rfl,rfl⟩⟩
      · cases h
    · cases h
  case app sz bytes s x =>
    unfold aapp at h ⊢
    split at h
    · cases h
    · rename_i k new hsrc
      rw [asrc_sub hs hsrc]
      simp only
      split at h
      · rename_i hone
        rw [if_pos hone]
        split at h
        · rename_i he
          split at h <;> cases h
          rename_i hc
          rw [if_pos hc]
          exact ⟨fun h=>by simp [touch,he] at h,fun b h=>by simp [touch,he] at h; subst h; exact ⟨_,rfl,rfl⟩⟩
        · rename_i b n s' off len he
          split at h
          · rename_i cs hb
            simp only [hs b cs hb]
            split at h
            · rename_i hc
              rw [if_pos hc]
              split at h
              · rename_i hc2
                rw [if_pos hc2]
                cases h
                exact ⟨fun h=>by simp [touch,he] at h,fun b h=>by simp [touch,he] at h; subst h; exact ⟨_,rfl,rfl⟩⟩
              · rename_i hc2
                rw [if_neg hc2]
                split at h
                · rename_i hc3
                  rw [if_pos hc3]
                  cases h
                  exact ⟨fun h=>by simp [touch,he] at h,fun b h=>by simp [touch,he] at h; subst h; exact ⟨_,rfl,rfl⟩⟩
                · rename_i hc3
                  rw [if_neg hc3]
                  split at h <;> cases h
                  rename_i hc4
                  rw [if_pos hc4]
                  exact ⟨fun h=>by simp [touch,he] at h,fun b h=>by simp [touch,he] at h; subst h; exact ⟨_,rfl,rfl⟩⟩
            · cases h
          · cases h
        · cases h
      · cases h
def reff (T:TT) (H:HT) (nx:Nat) (i:Ins):Option (AV × HT × Nat) :=
  match ieff (toT T) (toH0 H) nx i with
  | none=>none
  | some (r,H',nx')=>match touch (toT T) nx i with
    | none=>some (r,H,nx')
    | some b=>match H' b with
      | none=>none
      | some cs=>frL cs fun cs=>match PT.set LIM H b (some (.cells cs)) with
        | some H2=>some (r,H2,nx')
        | none=>none
theorem reff_ok {L:LV} {T:TT} {H H2:HT} {nx nx':Nat} {i:Ins} {r:AV} (h:reff T H nx i=some (r,H2,nx')):ieff (toT T) (toH L H) nx i=some (r,toH L H2,nx'):=by
  unfold reff at h
  split at h
  · cases h
  · rename_i r1 H1 nx1 he
    obtain ⟨t1,t2⟩:=ieff_touch (toH0_sub (L:=L)) he
    split at h
    · rename_i ht
      cases h
      exact t1 ht
    · rename_i b ht
      obtain ⟨cs,rfl,e⟩:=t2 b ht
      rw [show hupd (toH0 H) b cs b=some cs from if_pos rfl] at h
      simp only [frL_eq] at h
      split at h
      · rename_i H3 hset
        cases h
        rw [e,toH_set hset]
      · cases h
def avBytes:List AV→Option (List UInt8)
  | []=>some []
  | .int .u8 n :: l=>if 0 ≤ n∧n.toNat < 256 then (match avBytes l with | some bs=>some (UInt8.ofNat n.toNat :: bs) | none=>none) else none
  | _ :: _=>none
theorem avBytes_ok:∀ {l:List AV} {bs:List UInt8},avBytes l=some bs→l=bs.map encB
  | [],bs,h=>by cases h; rfl
  | x :: l,bs,h=>by
    cases x <;> try (simp only [avBytes] at h; cases h; done)
    rename_i k n
    cases k <;> try (simp only [avBytes] at h; cases h; done)
    simp only [avBytes] at h
    split at h
    · rename_i hn
      split at h
      · rename_i bs' hb
        cases h
        rw [List.map_cons,← avBytes_ok hb]
        congr 1
        unfold encB
        rw [UInt8.toNat_ofNat_of_lt' hn.2]
        congr 1
        omega
      · cases h
    · cases h
def rsp (T:Tm) (H:HT) (nx:Nat):Ins→Option (AV × HT × Nat)
  | .mkm h=>match h with
    | none=>match PT.set LIM H nx (some (.cells [.omap [] []])) with
      | some H'=>some (.mp nx,H',nx + 1)
      | none=>none
    | some x=>match ov T x with
      | .int _ _=>match PT.set LIM H nx (some (.cells [.omap [] []])) with
        | some H'=>some (.mp nx,H',nx + 1)
        | none=>none
      | _=>none
  | .mput k m key x=>match ov T m with
    | .mp b=>match H.get b with
      | some (.cells [.omap ks vs])=>if kfit k (ov T key)=true then match mfind k (ov T key) ks with
          | some r=>frL (msetK (ov T key) r ks) fun ks=>frL (msetV (ov T x) r vs) fun vs=>match PT.set LIM H b (some (.cells [.omap ks vs])) with
            | some H'=>some (.tup [],H',nx)
            | none=>none
          | none=>none
        else none
      | _=>none
    | _=>none
  | .mget k z ok m key=>match ov T m with
    | .mp b=>match H.get b with
      | some (.cells [.omap ks vs])=>if kfit k (ov T key)=true then match mfind k (ov T key) ks with
          | some r=>some (Go.Abs.mget z ok r vs,H,nx)
          | none=>none
        else none
      | _=>none
    | _=>none
  | .mplc k z m key=>match ov T m with
    | .mp b=>match H.get b with
      | some (.cells [.omap ks vs])=>if kfit k (ov T key)=true then match mfind k (ov T key) ks with
          | some r=>frL (msetK (ov T key) r ks) fun ks'=>frL (mplV z r vs) fun vs'=>match PT.set LIM H b (some (.cells [.omap ks' vs'])) with
            | some H'=>some (.tup [mplO z r vs,.int .i64 (mplI r ks)],H',nx)
            | none=>none
          | none=>none
        else none
      | _=>none
    | _=>none
  | .mpst m s x=>match ov T m with
    | .mp b=>match H.get b with
      | some (.cells [.omap ks vs])=>match ov T s with
        | .int .i64 (.ofNat i)=>if i < ks.length then frL (vs.set i (ov T x)) fun vs'=>match PT.set LIM H b (some (.cells [.omap ks vs'])) with
          | some H'=>some (.tup [],H',nx)
          | none=>none
          else none
        | _=>none
      | _=>none
    | _=>none
  | .mlen m=>match ov T m with
    | .mp b=>match H.get b with
      | some (.cells [.omap ks vs])=>some (.int .i64 ks.length,H,nx)
      | _=>none
    | _=>none
  | .cpy sz d s=>match acopy sz (ov T d) (ov T s) (toH0 H) with
    | none=>none
    | some (n,H')=>match n with
      | 0=>some (.int .i64 (0:Nat),H,nx)
      | n + 1=>match ov T d with
        | .msl b _ _ _ _=>match H' b with
          | some cs=>frL cs fun cs=>match PT.set LIM H b (some (.cells cs)) with
            | some H2=>some (.int .i64 (n + 1:Nat),H2,nx)
            | none=>none
          | none=>none
        | _=>none
  | .clr sz z x=>match aclear sz z (ov T x) (toH0 H) with
    | none=>none
    | some H'=>match ov T x with
      | .msl b _ _ _ 0=>some (.tup [],H,nx)
      | .msl b _ _ _ (_ + 1)=>match H' b with
        | some cs=>frL cs fun cs=>match PT.set LIM H b (some (.cells cs)) with
          | some H2=>some (.tup [],H2,nx)
          | none=>none
        | none=>none
      | _=>none
  | .snil neg x=>match alenN (ov T x) with
    | some (k + 1)=>some (.bool neg,H,nx)
    | _=>none
  | .s2b x=>match ov T x with
    | .str bs=>if bs.size=0 then some (.sl 1 [],H,nx) else frL (bs.data.toList.map encB) fun cs=>match PT.set LIM H nx (some (.cells cs)) with
      | some H'=>some (.msl nx bs.size 1 0 bs.size,H',nx + 1)
      | none=>none
    | _=>none
  | .b2s x=>match asrc 1 (toH0 H) (ov T x) with
    | some (n,l)=>match avBytes l with
      | some bs=>some (.str ⟨bs.toArray⟩,H,nx)
      | none=>none
    | none=>none
  | _=>none
theorem acopy_touch {sz n:Nat} {d s:AV} {S S' H:Hp} (hs:Sub S H) (h:acopy sz d s S=some (n,S')):(n=0→acopy sz d s H=some (0,H))∧(n ≠ 0→∀ b m z o l,d=.msl b m z o l→∃ cs,S'=hupd S b cs∧acopy sz d s H=some (n,hupd H b cs)):=by
  unfold acopy at h ⊢
  split at h
  · rename_i ld ls h1 h2
    split at h
    · rename_i hm
      rw [if_pos hm]
      cases h; exact ⟨fun _=>rfl,fun h=>absurd rfl h⟩
    · rename_i hm
      rw [if_neg hm]
      split at h
      · split at h
        · rename_i cs m new hb hsrc
          simp only [hs _ _ hb,asrc_sub hs hsrc]
          split at h
          · rename_i hc
            rw [if_pos hc]
            cases h
            refine ⟨fun h=>absurd h hm,fun _ b m z o l e=>?_⟩
            cases e; exact ⟨_,rfl,rfl⟩
          · cases h
        · cases h
      · cases h
  · cases h
theorem aclear_touch {sz:Nat} {z x:AV} {S S' H:Hp} (hs:Sub S H) (h:aclear sz z x S=some S'):∀ b m s o l,x=.msl b m s o l→(l=0→aclear sz z x H=some H)∧(l ≠ 0→∃ cs,S'=hupd S b cs∧aclear sz z x H=some (hupd H b cs)):=by
  intro b m s o l hx
  subst hx
  simp only [aclear] at h ⊢
  split at h
  · rename_i h0
    rw [if_pos h0]
    exact ⟨fun _=>rfl,fun h=>absurd h0 h⟩
  · rename_i h0
    rw [if_neg h0]
    refine ⟨fun h=>absurd h h0,fun _=>?_⟩
    split at h
    · rename_i cs hb
      simp only [hs _ _ hb]
      split at h
      · rename_i hc
        rw [if_pos hc]
        cases h
        exact ⟨_,rfl,rfl⟩
      · cases h
    · cases h
theorem cells_at {L:LV} {H:HT} {b:Nat} {cs:List AV} (h:H.get b=some (.cells cs)):toH L H b=some cs:=by
  simp only [toH,h,bcL]
theorem rsp_ok {L:LV} {T:Tm} {H H2:HT} {nx nx':Nat} {i:Ins} {r:AV} {K:AV→Hp→Nat→Prop} (h:rsp T H nx i=some (r,H2,nx')) (hK:K r (toH L H2) nx'):isp i T (toH L H) nx K:=by
  cases i <;> simp only [rsp] at h <;> try (cases h; done)
  case mkm x =>
    cases x with
    | none =>
      simp only at h
      split at h
      · rename_i H' hs
        cases h
        exact ⟨.inl rfl,by rw [toH_set hs] at hK; exact hK⟩
      · cases h
    | some x =>
      simp only at h
      split at h
      · rename_i k n hx
        split at h
        · rename_i H' hs
          cases h
          exact ⟨.inr ⟨x,k,n,rfl,hx⟩,by rw [toH_set hs] at hK; exact hK⟩
        · cases h
      · cases h
  case mput k m key x =>
    split at h
    · rename_i b hm
      split at h
      · rename_i ks vs hb
        split at h
        · rename_i hf
          split at h
          · rename_i r1 hr
            simp only [frL_eq] at h
            split at h
            · rename_i H' hs
              cases h
              exact ⟨b,ks,vs,r1,hm,cells_at hb,hf,hr,by rw [toH_set hs] at hK; exact hK⟩
            · cases h
          · cases h
        · cases h
      · cases h
    · cases h
  case mget k z ok m key =>
    split at h
    · rename_i b hm
      split at h
      · rename_i ks vs hb
        split at h
        · rename_i hf
          split at h
          · rename_i r1 hr
            cases h
            exact ⟨b,ks,vs,r1,hm,cells_at hb,hf,hr,hK⟩
          · cases h
        · cases h
      · cases h
    · cases h
  case mplc k z m key =>
    split at h
    · rename_i b hm
      split at h
      · rename_i ks vs hb
        split at h
        · rename_i hf
          split at h
          · rename_i r1 hr
            simp only [frL_eq] at h
            split at h
            · rename_i H' hs
              cases h
              exact ⟨b,ks,vs,r1,hm,cells_at hb,hf,hr,by rw [toH_set hs] at hK; exact hK⟩
            · cases h
          · cases h
        · cases h
      · cases h
    · cases h
  case mpst m s x =>
    split at h
    · rename_i b hm
      split at h
      · rename_i ks vs hb
        split at h
        · rename_i i hi
          split at h
          · rename_i hlt
            simp only [frL_eq] at h
            split at h
            · rename_i H' hs
              cases h
              exact ⟨b,ks,vs,i,hm,cells_at hb,hi,hlt,by rw [toH_set hs] at hK; exact hK⟩
            · cases h
          · cases h
        · cases h
      · cases h
    · cases h
  case mlen m =>
    split at h
    · rename_i b hm
      split at h
      · rename_i ks vs hb
        cases h
        exact ⟨b,ks,vs,hm,cells_at hb,hK⟩
      · cases h
    · cases h
  case cpy sz d s =>
    split at h
    · cases h
    · rename_i n H' hc
      obtain ⟨t1,t2⟩:=acopy_touch (toH0_sub (L:=L)) hc
      split at h
      · cases h
        exact ⟨0,_,t1 rfl,hK⟩
      · rename_i n
        split at h
        · rename_i b m z o l hd
          obtain ⟨cs,rfl,e⟩:=t2 (Nat.succ_ne_zero _) _ _ _ _ _ hd
          rw [show hupd (toH0 H) b cs b=some cs from if_pos rfl] at h
          simp only [frL_eq] at h
          split at h
          · rename_i H3 hs
            cases h
            exact ⟨_,_,e,by rw [toH_set hs] at hK; exact hK⟩
          · cases h
        · cases h
  case clr sz z x =>
    split at h
    · cases h
    · rename_i H' hc
      have ht:=aclear_touch (toH0_sub (L:=L)) hc
      split at h
      · rename_i b m s o hx
        cases h
        exact ⟨_,(ht _ _ _ _ _ hx).1 rfl,hK⟩
      · rename_i b m s o l hx
        obtain ⟨cs,rfl,e⟩:=(ht _ _ _ _ _ hx).2 (Nat.succ_ne_zero _)
        rw [show hupd (toH0 H) b cs b=some cs from if_pos rfl] at h
        simp only [frL_eq] at h
        split at h
        · rename_i H3 hs
          cases h
          exact ⟨_,e,by rw [toH_set hs] at hK; exact hK⟩
        · cases h
      · cases h
  case snil neg x =>
    split at h
    · rename_i k hx
      cases h
      exact ⟨k + 1,hx,fun _=>hK,fun h=>absurd h (Nat.succ_ne_zero _)⟩
    · cases h
  case s2b x =>
    split at h
    · rename_i bs hx
      split at h
      · rename_i h0
        cases h
        exact ⟨bs,hx,fun _=>hK,fun h=>absurd h0 h⟩
      · rename_i h0
        simp only [frL_eq] at h
        split at h
        · rename_i H' hs
          cases h
          exact ⟨bs,hx,fun h=>absurd h h0,fun _=>by rw [toH_set hs] at hK; exact hK⟩
        · cases h
    · cases h
  case b2s x =>
    split at h
    · rename_i n l hx
      split at h
      · rename_i bs hb
        cases h
        exact ⟨n,bs,by rw [asrc_sub toH0_sub hx,avBytes_ok hb],hK⟩
      · cases h
    · cases h
def optMap (f:AV→Option AV):List AV→Option (List AV)
  | []=>some []
  | x :: l=>match f x with
    | some y=>match optMap f l with
      | some m=>some (y :: m)
      | none=>none
    | none=>none
theorem optMap_ok {f:AV→Option AV}:∀ {l m:List AV},optMap f l=some m→m.length=l.length∧∀ (i:Nat) (a c:AV),l[i]?=some a→m[i]?=some c→f a=some c
  | [],m,h=>by cases h; exact ⟨rfl,by simp⟩
  | x :: l,m,h=>by
    simp only [optMap] at h
    split at h
    · rename_i y hy
      split at h
      · rename_i m' hm
        cases h
        obtain ⟨h1,h2⟩:=optMap_ok hm
        refine ⟨by simp [h1],fun i a c ha hc=>?_⟩
        cases i with
        | zero=>simp at ha hc; subst ha hc; exact hy
        | succ i=>exact h2 i a c (by simpa using ha) (by simpa using hc)
      · cases h
    · cases h
def mkE:List AV→AV
  | [.agg a]=>.agg [.agg a]
  | [c]=>c
  | cs=>.agg cs
theorem mkE_cells (cs:List AV):(mkE cs).cells=cs:=by
  rcases cs with _ | ⟨a,_ | ⟨b,l⟩⟩
  · rfl
  · cases a <;> rfl
  · cases a <;> rfl
def chunk (sz:Nat):Nat→List AV→List AV
  | 0,_=>[]
  | n + 1,ds=>mkE (ds.take sz) :: chunk sz n (ds.drop sz)
theorem chunk_len (sz:Nat):∀ (n:Nat) (ds:List AV),(chunk sz n ds).length=n
  | 0,_=>rfl
  | n + 1,ds=>by simp [chunk,chunk_len]
theorem chunk_get (sz:Nat):∀ (n:Nat) (ds:List AV),ds.length=n * sz→∀ (i:Nat) (y:AV),(chunk sz n ds)[i]?=some y→y.cells.length=sz∧∀ (j:Nat) (c:AV),y.cells[j]?=some c→ds[i * sz + j]?=some c
  | 0,_,_,i,y,h=>by simp [chunk] at h
  | n + 1,ds,hl,i,y,h=>by
    rw [Nat.add_mul,Nat.one_mul] at hl
    cases i with
    | zero =>
      simp only [chunk,List.getElem?_cons_zero,Option.some.injEq] at h
      subst h
      rw [mkE_cells]
      refine ⟨by rw [List.length_take]; omega,fun j c hc=>?_⟩
      rw [Nat.zero_mul,Nat.zero_add]
      rw [List.getElem?_take] at hc
      split at hc
      · exact hc
      · cases hc
    | succ i =>
      simp only [chunk,List.getElem?_cons_succ] at h
      obtain ⟨h1,h2⟩:=chunk_get sz n (ds.drop sz) (by rw [List.length_drop]; omega) i y h
      refine ⟨h1,fun j c hc=>?_⟩
      have:=h2 j c hc
      rw [List.getElem?_drop] at this
      rw [← this]
      congr 1
      rw [Nat.add_mul]; omega
def snapE (f:AV→Option AV):AV→Option AV
  | .agg cs=>match optMap f cs with
    | some ds=>some (.agg ds)
    | none=>none
  | x=>match f x with
    | some (.agg _)=>none
    | some y=>some y
    | none=>none
theorem snapE_ok {f:AV→Option AV} {x y:AV} (h:snapE f x=some y):y.cells.length=x.cells.length∧∀ (j:Nat) (a b:AV),x.cells[j]?=some a→y.cells[j]?=some b→f a=some b:=by
  unfold snapE at h
  split at h
  · split at h
    · rename_i hm
      cases h
      exact optMap_ok hm
    · cases h
  · rename_i hna
    have hx:x.cells=[x]:=by cases x <;> first | rfl | exact absurd rfl (hna _)
    split at h
    · cases h
    · rename_i y' hny hy
      cases h
      have hyc:y.cells=[y]:=by cases y <;> first | rfl | exact absurd hy (by intro hh; exact hny _ rfl)
      rw [hx,hyc]
      refine ⟨rfl,fun j a b ha hb=>?_⟩
      cases j with
      | zero=>simp at ha hb; subst ha hb; exact hy
      | succ j=>simp at ha
    · cases h
def snapV (H:Hp):Nat→AV→Option AV
  | 0,_=>none
  | k + 1,x=>match x with
    | .bool b=>some (.bool b)
    | .int k n=>some (.int k n)
    | .str s=>some (.str s)
    | .nilp=>some .nilp
    | .nilf=>some .nilf
    | .nilm=>some .nilm
    | .esl=>some .esl
    | .sl sz l=>match optMap (snapE (snapV H k)) l with
      | some m=>some (.sl sz m)
      | none=>none
    | .msl b n sz off len=>match len with
      | 0=>some (.sl sz [])
      | len + 1=>match H b with
        | some cs=>if cs.length=n∧off + (len + 1) * sz ≤ n then match optMap (snapV H k) ((cs.drop off).take ((len + 1) * sz)) with
            | some ds=>some (.sl sz (chunk sz (len + 1) ds))
            | none=>none
          else none
        | none=>none
    | .ptr b n off=>match H b with
      | some cs=>if cs.length=n then match optMap (snapV H k) cs with
          | some ds=>some (.iptr ds off)
          | none=>none
        else none
      | none=>none
    | .iptr cs off=>match optMap (snapV H k) cs with
      | some ds=>some (.iptr ds off)
      | none=>none
    | .func f cs=>match optMap (snapV H k) cs with
      | some ds=>some (.func f ds)
      | none=>none
    | .agg cs=>match optMap (snapV H k) cs with
      | some ds=>some (.agg ds)
      | none=>none
    | .tup cs=>match optMap (snapV H k) cs with
      | some ds=>some (.tup ds)
      | none=>none
    | _=>none
theorem snapV_ok {S H:Hp} (hs:Sub S H):∀ (k:Nat) {x y:AV},snapV S k x=some y→Snap H x y
  | 0,_,_,h=>by cases h
  | k + 1,x,y,h=>by
    have ih:=@snapV_ok S H hs k
    have om:∀ {l m:List AV},optMap (snapV S k) l=some m→m.length=l.length∧∀ (i:Nat) (a c:AV),l[i]?=some a→m[i]?=some c→Snap H a c:=fun hm =>
      ⟨(optMap_ok hm).1,fun i a c ha hc=>ih ((optMap_ok hm).2 i a c ha hc)⟩
    cases x <;> simp only [snapV] at h <;> try (cases h; done)
    case bool=>cases h; exact .bool _
    case int=>cases h; exact .int _ _
    case str=>cases h; exact .str _
    case nilp=>cases h; exact .nilp
    case nilf=>cases h; exact .nilf
    case nilm=>cases h; exact .nilm
    case esl=>cases h; exact .esl
    case sl sz l =>
      split at h
      · rename_i m hm
        cases h
        obtain ⟨h1,h2⟩:=optMap_ok hm
        exact .sl sz l m h1.symm (fun i x y hx hy=>(snapE_ok (h2 i x y hx hy)).1) (fun i j x y a b hx hy ha hb=>ih ((snapE_ok (h2 i x y hx hy)).2 j a b ha hb))
      · cases h
    case msl b n sz off len =>
      split at h
      · cases h; exact .mslnil _ _ _ _ _
      · rename_i len
        split at h
        · rename_i cs hb
          split at h
          · rename_i hc
            split at h
            · rename_i ds hds
              cases h
              obtain ⟨h1,h2⟩:=om hds
              have hdl:ds.length=(len + 1) * sz:=by rw [h1,List.length_take,List.length_drop]; omega
              have hg:=chunk_get sz (len + 1) ds hdl
              refine .msl b n sz off (len + 1) cs _ (hs _ _ hb) hc.1 hc.2 (chunk_len _ _ _) (fun y hy=>?_) (fun i j y a c hy hc' ha=>?_)
              · obtain ⟨i,hi⟩:=List.getElem?_of_mem hy
                exact (hg i y hi).1
              · obtain ⟨g1,g2⟩:=hg i y hy
                have g3:=g2 j c hc'
                refine h2 (i * sz + j) a c ?_ g3
                have hlt:i * sz + j < (len + 1) * sz:=by
                  rw [← hdl]; exact (List.getElem?_eq_some_iff.1 g3).1
                rw [List.getElem?_take,if_pos hlt,List.getElem?_drop,← ha]
                congr 1; omega
            · cases h
          · cases h
        · cases h
    case ptr b n off =>
      split at h
      · rename_i cs hb
        split at h
        · rename_i hn
          split at h
          · rename_i ds hds
            cases h
            exact .ptr b n off cs ds (hs _ _ hb) hn (by rw [(om hds).1,hn]) (om hds).2
          · cases h
        · cases h
      · cases h
    case iptr cs off =>
      split at h
      · rename_i ds hds
        cases h
        exact .iptr cs ds off (om hds).1 (om hds).2
      · cases h
    case func f cs =>
      split at h
      · rename_i ds hds
        cases h
        exact .func f cs ds (om hds).1 (om hds).2
      · cases h
    case agg cs =>
      split at h
      · rename_i ds hds
        cases h
        exact .agg cs ds (om hds).1 (om hds).2
      · cases h
    case tup cs =>
      split at h
      · rename_i ds hds
        cases h
        exact .tup cs ds (om hds).1 (om hds).2
      · cases h
theorem Snap.self {H H':Hp} {x y:AV} (h:Snap H x y):Snap H' y y:=by
  induction h with
  | bool b=>exact .bool _
  | int k n=>exact .int _ _
  | str s=>exact .str _
  | nilp=>exact .nilp
  | nilf=>exact .nilf
  | nilm=>exact .nilm
  | esl=>exact .esl
  | eslsl sz=>exact .slnil _ _
  | sl sz l l' hl hc h ih =>
    refine .sl sz l' l' rfl (fun i x y hx hy=>by rw [hx] at hy; cases hy; rfl) (fun i j x y a b hx hy ha hb=>?_)
    rw [hx] at hy; cases hy
    rw [ha] at hb; cases hb
    have hlt:i < l.length:=by rw [hl]; exact (List.getElem?_eq_some_iff.1 hx).1
    have hz:l[i]?=some l[i]:=by simp [hlt]
    have hcl:=hc i _ _ hz hx
    have hj:j < l[i].cells.length:=by rw [← hcl]; exact (List.getElem?_eq_some_iff.1 ha).1
    exact ih i j l[i] x l[i].cells[j] a hz hx (by simp [hj]) ha
  | slnil sz sz'=>exact .slnil _ _
  | msl b n sz off len cs l' hb hn hfit hl hc h ih =>
    refine .sl sz l' l' rfl (fun i x y hx hy=>by rw [hx] at hy; cases hy; rfl) (fun i j x y a c hx hy ha hc'=>?_)
    rw [hx] at hy; cases hy
    rw [ha] at hc'; cases hc'
    have hi:i < len:=by rw [← hl]; exact (List.getElem?_eq_some_iff.1 hx).1
    have hj:j < sz:=by rw [← hc x (List.mem_of_getElem? hx)]; exact (List.getElem?_eq_some_iff.1 ha).1
    have hlt:off + i * sz + j < cs.length:=by
      have:(i + 1) * sz ≤ len * sz:=Nat.mul_le_mul_right _ hi
      rw [Nat.add_mul] at this; omega
    exact ih i j x cs[off + i * sz + j] a hx ha (by simp [hlt])
  | mslnil b n sz off sz'=>exact .slnil _ _
  | ptr b n off cs cs' hb hn hl h ih =>
    refine .iptr cs' cs' off rfl (fun i a c ha hc=>?_)
    rw [ha] at hc; cases hc
    have hlt:i < cs.length:=by rw [hn,← hl]; exact (List.getElem?_eq_some_iff.1 ha).1
    exact ih i cs[i] a (by simp [hlt]) ha
  | iptr cs cs' off hl h ih =>
    refine .iptr cs' cs' off rfl (fun i a c ha hc=>?_)
    rw [ha] at hc; cases hc
    have hlt:i < cs.length:=by rw [← hl]; exact (List.getElem?_eq_some_iff.1 ha).1
    exact ih i cs[i] a (by simp [hlt]) ha
  | func f cs cs' hl h ih =>
    refine .func f cs' cs' rfl (fun i a c ha hc=>?_)
    rw [ha] at hc; cases hc
    have hlt:i < cs.length:=by rw [← hl]; exact (List.getElem?_eq_some_iff.1 ha).1
    exact ih i cs[i] a (by simp [hlt]) ha
  | agg cs cs' hl h ih =>
    refine .agg cs' cs' rfl (fun i a c ha hc=>?_)
    rw [ha] at hc; cases hc
    have hlt:i < cs.length:=by rw [← hl]; exact (List.getElem?_eq_some_iff.1 ha).1
    exact ih i cs[i] a (by simp [hlt]) ha
  | tup cs cs' hl h ih =>
    refine .tup cs' cs' rfl (fun i a c ha hc=>?_)
    rw [ha] at hc; cases hc
    have hlt:i < cs.length:=by rw [← hl]; exact (List.getElem?_eq_some_iff.1 ha).1
    exact ih i cs[i] a (by simp [hlt]) ha
theorem Fn.of_pureZ {P:Program} {f:FuncId} {args args':List AV} {r:AV} (hp:Pure P f args' r) {H Hf H':Hp} {nx:Nat} (hsub:∀ b cs,Hf b=some cs→H b=some cs) (hH:∀ b cs,H' b=some cs→H b=some cs∧Hf b=none) (hs:SnapL Hf args args')
    {R:AV→Hp→Nat→Prop} (hR:R r H' nx):Fn P f args H nx R:=by
  refine ⟨hp.1,fun E w vs hE hh hfr hv=>?_⟩
  have hsim:Sim E { n:=vs.length } ⟨T0 args,H,nx⟩ { tmps:=vs.toArray,defers:=[] } w:=by
    refine ⟨hE,hh,hfr,fun l hl=>(by cases hl),Nat.zero_le _,by simp,fun t=>?_,⟨List.Pairwise.nil,fun d hd=>(by cases hd)⟩⟩
    show Rel E w (T0 args t) (vs.toArray.getD t Go.undef)
    by_cases ht:t < args.length
    · have h1:args[t]?=some args[t]:=by simp [ht]
      have h2:vs[t]?=some (vs[t]'(by rw [hv.1]; exact ht)):=by simp [hv.1,ht]
      have:=hv.2 t _ _ h1 h2
      have e1:T0 args t=args[t]:=by simp [T0,List.getD,ht]
      have e2:vs.toArray.getD t Go.undef=vs[t]'(by rw [hv.1]; exact ht):=by simp [Array.getD,hv.1,ht]
      rw [e1,e2]; exact this
    · have e1:T0 args t=.undef:=by simp [T0,List.getD,ht]
      rw [e1]; exact .undef _
  have hg:Gh (T0 args) H nx (T0 args') H' nx Hf:=by
    refine ⟨hsub,Nat.le_refl _,fun b cs' hb=>?_,fun t=>?_⟩
    · obtain ⟨h1,h2⟩:=hH b cs' hb
      exact .inl ⟨cs',h1,h2,rfl,fun i x x' hx hx'=>.inl (by rw [hx] at hx'; cases hx'; rfl)⟩
    · by_cases ht:t < args.length
      · have h1:args[t]?=some args[t]:=by simp [ht]
        have h2:args'[t]?=some (args'[t]'(by rw [hs.1]; exact ht)):=by simp [hs.1,ht]
        have:=hs.2 t _ _ h1 h2
        have e1:T0 args t=args[t]:=by simp [T0,List.getD,ht]
        have e2:T0 args' t=args'[t]'(by rw [hs.1]; exact ht):=by simp [T0,List.getD,hs.1,ht]
        right; right; left
        rw [e1,e2]; exact this
      · left
        simp [T0,List.getD,hs.1,ht]
  obtain ⟨E',he,hsim'⟩:=hsim.ghost hg
  have hself:SnapL noBoxes args' args':=⟨rfl,fun i x y hx hy=>by
    rw [hx] at hy; cases hy
    have hlt:i < args.length:=by rw [← hs.1]; exact (List.getElem?_eq_some_iff.1 hx).1
    exact (hs.2 i args[i] x (by simp [hlt]) hx).self⟩
  have hv':RelL E' w args' vs:=by
    refine ⟨by rw [hv.1,hs.1],fun i x v hx hvi=>?_⟩
    have hlt:i < vs.length:=(List.getElem?_eq_some_iff.1 hvi).1
    have hla:i < args'.length:=(List.getElem?_eq_some_iff.1 hx).1
    have:=hsim'.tmps i
    have e1:T0 args' i=x:=by
      have:=(List.getElem?_eq_some_iff.1 hx).2
      simp [T0,List.getD,hx]
    have e2:vs.toArray.getD i Go.undef=v:=by
      have:=(List.getElem?_eq_some_iff.1 hvi).2
      simp [Array.getD,hlt,this]
    simp only at this
    rw [e1,e2] at this
    exact this
  refine ((Fn.of_pure hp (.inl hself) (H:=H') (nx:=nx) (R:=R) hR).2 E' w vs hsim'.env hsim'.heap hsim'.fresh hv').mono ?_
  rintro e w' ⟨v,E2,r2,H2,nx2,k1,k2,k3,k4,k5,k6,k7⟩
  exact ⟨v,E2,r2,H2,nx2,k1,he.trans k2,k3,k4,k5,k6,k7⟩
def snapFV (H:Hp):Nat→AV→Option AV
  | 0,_=>none
  | k + 1,x=>match x with
    | .bool b=>some (.bool b)
    | .int k n=>some (.int k n)
    | .str s=>some (.str s)
    | .nilp=>some .nilp
    | .nilf=>some .nilf
    | .nilm=>some .nilm
    | .esl=>some .esl
    | .sl sz l=>match l with
      | []=>some (.sl sz [])
      | _ :: _=>none
    | .msl b n sz off len=>match len with
      | 0=>some (.sl sz [])
      | len + 1=>match H b with
        | some cs=>if cs.length=n∧off + (len + 1) * sz ≤ n then match optMap (snapFV H k) ((cs.drop off).take ((len + 1) * sz)) with
            | some ds=>some (.sl sz (chunk sz (len + 1) ds))
            | none=>none
          else none
        | none=>none
    | .ptr b n off=>match H b with
      | some cs=>if cs.length=n then match optMap (snapFV H k) cs with
          | some ds=>some (.iptr ds off)
          | none=>none
        else none
      | none=>none
    | .func f cs=>match optMap (snapFV H k) cs with
      | some ds=>some (.func f ds)
      | none=>none
    | .agg cs=>match optMap (snapFV H k) cs with
      | some ds=>some (.agg ds)
      | none=>none
    | .tup cs=>match optMap (snapFV H k) cs with
      | some ds=>some (.tup ds)
      | none=>none
    | _=>none
theorem snapFV_ok {S H:Hp} (hs:Sub S H):∀ (k:Nat) {x y:AV},snapFV S k x=some y→SnapF H x y
  | 0,_,_,h=>by cases h
  | k + 1,x,y,h=>by
    have ih:=@snapFV_ok S H hs k
    have om:∀ {l m:List AV},optMap (snapFV S k) l=some m→m.length=l.length∧∀ (i:Nat) (a c:AV),l[i]?=some a→m[i]?=some c→SnapF H a c:=fun hm =>
      ⟨(optMap_ok hm).1,fun i a c ha hc=>ih ((optMap_ok hm).2 i a c ha hc)⟩
    cases x <;> simp only [snapFV] at h <;> try (cases h; done)
    case bool=>cases h; exact .bool _
    case int=>cases h; exact .int _ _
    case str=>cases h; exact .str _
    case nilp=>cases h; exact .nilp
    case nilf=>cases h; exact .nilf
    case nilm=>cases h; exact .nilm
    case esl=>cases h; exact .esl
    case sl sz l =>
      split at h
      · cases h; exact .slnil _ _
      · cases h
    case msl b n sz off len =>
      split at h
      · cases h; exact .mslnil _ _ _ _ _
      · rename_i len
        split at h
        · rename_i cs hb
          split at h
          · rename_i hc
            split at h
            · rename_i ds hds
              cases h
              obtain ⟨h1,h2⟩:=om hds
              have hdl:ds.length=(len + 1) * sz:=by rw [h1,List.length_take,List.length_drop]; omega
              have hg:=chunk_get sz (len + 1) ds hdl
              refine .msl b n sz off (len + 1) cs _ (hs _ _ hb) hc.1 hc.2 (chunk_len _ _ _) (fun y hy=>?_) (fun i j y a c hy hc' ha=>?_)
              · obtain ⟨i,hi⟩:=List.getElem?_of_mem hy
                exact (hg i y hi).1
              · obtain ⟨g1,g2⟩:=hg i y hy
                have g3:=g2 j c hc'
                refine h2 (i * sz + j) a c ?_ g3
                have hlt:i * sz + j < (len + 1) * sz:=by
                  rw [← hdl]; exact (List.getElem?_eq_some_iff.1 g3).1
                rw [List.getElem?_take,if_pos hlt,List.getElem?_drop,← ha]
                congr 1; omega
            · cases h
          · cases h
        · cases h
    case ptr b n off =>
      split at h
      · rename_i cs hb
        split at h
        · rename_i hn
          split at h
          · rename_i ds hds
            cases h
            exact .ptr b n off cs ds (hs _ _ hb) hn (by rw [(om hds).1,hn]) (om hds).2
          · cases h
        · cases h
      · cases h
    case func f cs =>
      split at h
      · rename_i ds hds
        cases h
        exact .func f cs ds (om hds).1 (om hds).2
      · cases h
    case agg cs =>
      split at h
      · rename_i ds hds
        cases h
        exact .agg cs ds (om hds).1 (om hds).2
      · cases h
    case tup cs =>
      split at h
      · rename_i ds hds
        cases h
        exact .tup cs ds (om hds).1 (om hds).2
      · cases h
end Go.Abs
namespace Go.Abs
open Go.RowKit
def SF:Nat:=40
abbrev CL:=FuncId→List AV→HT→Nat→Option (AV × HT × Nat)
abbrev PC:=FuncId→List AV→HT→Option AV
def rins (cl:CL) (pc:PC) (yl:CL) (dm:DM) (i:Ins) (T:TT) (H:HT) (nx:Nat):Option (AV × HT × Nat) :=
  match ic i with
  | .val=>match dm2 dm (toT T) i with
    | true=>match ival (toT T) (toH0 H) i with
      | some r=>some (r,H,nx)
      | none=>none
    | false=>none
  | .eff=>match dm2 dm (toT T) i with
    | true=>reff T H nx i
    | false=>none
  | .call=>match i with
    | .call f args=>match ov (toT T) f with
      | .func g caps=>match dm.isText with
        | true=>cl g (args.map (ov (toT T)) ++ caps) H nx
        | false=>match pc g (args.map (ov (toT T)) ++ caps) H with
          | some r=>some (r,H,nx)
          | none=>none
      | .bfn g fs=>match dm.isText with
        | true=>cl g (fs ++ args.map (ov (toT T))) H nx
        | false=>none
      | .yld b=>match dm.isText with
        | true=>yl b (args.map (ov (toT T))) H nx
        | false=>none
      | _=>none
    | _=>none
  | .sp=>match dm.isText with
    | true=>rsp (toT T) H nx i
    | false=>none
def rops (cl:CL) (pc:PC) (yl:CL) (dm:DM):List Op2→TT→HT→Nat→Option (TT × HT × Nat)
  | [],T,H,nx=>some (T,H,nx)
  | o :: l,T,H,nx=>match g2 (toT T) o.g with
    | none=>none
    | some false=>match stT T o.d (.tup []) with
      | some T=>rops cl pc yl dm l T H nx
      | none=>none
    | some true=>match rins cl pc yl dm o.i T H nx with
      | none=>none
      | some (r,H,nx)=>frV r fun r=>match stT T o.d r with
        | some T=>rops cl pc yl dm l T H nx
        | none=>none
structure CLok (P:Program) (L:LV) (cl:CL) (pc:PC) (yl:CL):Prop where
  cl:∀ {g:FuncId} {args:List AV} {H H':HT} {nx nx':Nat} {r:AV} {R:AV→Hp→Nat→Prop},cl g args H nx=some (r,H',nx')→R r (toH L H') nx'→Fn P g args (toH L H) nx R
  pc:∀ {g:FuncId} {args:List AV} {H:HT} {r:AV},pc g args H=some r→CallOk P g args (toH L H) r
  yl:∀ {g:Nat} {args:List AV} {H H':HT} {nx nx':Nat} {r:AV} {R:AV→Hp→Nat→Prop},yl g args H nx=some (r,H',nx')→R r (toH L H') nx'→Yl P g args (toH L H) nx R
theorem rins_ok {P:Program} {L:LV} {cl:CL} {pc:PC} {yl:CL} (hk:CLok P L cl pc yl) {dm:DM} {i:Ins} {T:TT} {H H':HT} {nx nx':Nat} {r:AV} {K:AV→Hp→Nat→Prop}
    (h:rins cl pc yl dm i T H nx=some (r,H',nx')) (hK:K r (toH L H') nx'):ains P dm i (toT T) (toH L H) nx K:=by
  unfold rins at h
  unfold ains
  cases hi:ic i with
  | val =>
    rw [hi] at h
    simp only at h ⊢
    split at h
    · rename_i hd
      split at h
      · rename_i r' hr
        cases h
        exact ⟨hd,by rw [ival_sub' toH0_sub hr]; exact hK⟩
      · cases h
    · cases h
  | eff =>
    rw [hi] at h
    simp only at h ⊢
    split at h
    · rename_i hd
      exact ⟨hd,by rw [reff_ok h]; exact hK⟩
    · cases h
  | sp =>
    rw [hi] at h
    simp only at h ⊢
    split at h
    · rename_i hd
      exact ⟨hd,rsp_ok h hK⟩
    · cases h
  | call =>
    rw [hi] at h
    simp only at h ⊢
    cases i <;> try (cases hi; done)
    rename_i f args
    simp only at h ⊢
    cases hf:ov (toT T) f <;> rw [hf] at h <;> simp only at h <;> try (cases h; done)
    · rename_i g caps
      left
      show match dm.isText with | false=>_ | true=>_
      cases hd:dm.isText with
      | true=>rw [hd] at h; exact hk.cl h hK
      | false =>
        rw [hd] at h
        simp only at h
        split at h
        · rename_i r' hr
          cases h
          exact ⟨_,hk.pc hr,hK⟩
        · cases h
    · rename_i g fs
      right
      cases hd:dm.isText with
      | true=>rw [hd] at h; exact ⟨rfl,.inr ⟨g,fs,rfl,hk.cl h hK⟩⟩
      | false=>rw [hd] at h; cases h
    · rename_i b
      right
      cases hd:dm.isText with
      | true=>rw [hd] at h; exact ⟨rfl,.inl ⟨b,rfl,hk.yl h hK⟩⟩
      | false=>rw [hd] at h; cases h
theorem rops_ok {P:Program} {L:LV} {cl:CL} {pc:PC} {yl:CL} (hk:CLok P L cl pc yl) {dm:DM} {K:SP}:∀ {l:List Op2} {T T':TT} {H H':HT} {nx nx':Nat},
    rops cl pc yl dm l T H nx=some (T',H',nx')→K (toT T') (toH L H') nx'→aops2 P dm l (toT T) (toH L H) nx K
  | [],_,_,_,_,_,_,h,hK=>by cases h; exact hK
  | o :: l,T,T',H,H',nx,nx',h,hK=>by
    simp only [rops] at h
    show gbind (g2 (toT T) o.g) _ _
    cases hg:g2 (toT T) o.g with
    | none=>rw [hg] at h; cases h
    | some b =>
      rw [hg] at h
      cases b with
      | false =>
        simp only at h
        split at h
        · rename_i T1 hs
          have:=rops_ok hk h hK
          rw [toT_st hs] at this
          exact this
        · cases h
      | true =>
        simp only at h
        split at h
        · cases h
        · rename_i r H1 nx1 hr
          simp only [frV_eq] at h
          split at h
          · rename_i T1 hs
            have:=rops_ok hk h hK
            rw [toT_st hs] at this
            exact rins_ok (K:=fun r H nx=>aops2 P dm l (updo (toT T) o.d r) H nx K) hk hr this
          · cases h
def allEq (f:AV→AV→Bool):List AV→List AV→Bool
  | [],[]=>true
  | x :: l,y :: m=>match f x y with
    | true=>allEq f l m
    | false=>false
  | _,_=>false
theorem allEq_ok {f:AV→AV→Bool} (h:∀ x y,f x y=true→x=y):∀ {l m:List AV},allEq f l m=true→l=m
  | [],[],_=>rfl
  | [],_ :: _,h=>by cases h
  | _ :: _,[],h=>by cases h
  | x :: l,y :: m,he=>by
    simp only [allEq] at he
    split at he
    · rename_i hx
      rw [h _ _ hx,allEq_ok h he]
    · cases he
def avEq:Nat→AV→AV→Bool
  | 0,_,_=>false
  | k + 1,x,y=>match x with
    | .undef=>match y with
      | .undef=>true
      | _=>false
    | .bool a=>match y with
      | .bool b=>decide (a=b)
      | _=>false
    | .int j a=>match y with
      | .int i b=>decide (j=i) && decide (a=b)
      | _=>false
    | .str a=>match y with
      | .str b=>decide (a=b)
      | _=>false
    | .nilp=>match y with
      | .nilp=>true
      | _=>false
    | .nilf=>match y with
      | .nilf=>true
      | _=>false
    | .nilm=>match y with
      | .nilm=>true
      | _=>false
    | .esl=>match y with
      | .esl=>true
      | _=>false
    | .ptr b n o=>match y with
      | .ptr b' n' o'=>Nat.beq b b' && Nat.beq n n' && Nat.beq o o'
      | _=>false
    | .msl b n s o l=>match y with
      | .msl b' n' s' o' l'=>Nat.beq b b' && Nat.beq n n' && Nat.beq s s' && Nat.beq o o' && Nat.beq l l'
      | _=>false
    | .mp b=>match y with
      | .mp b'=>Nat.beq b b'
      | _=>false
    | .yld b=>match y with
      | .yld b'=>Nat.beq b b'
      | _=>false
    | .sl s l=>match y with
      | .sl s' l'=>Nat.beq s s' && allEq (avEq k) l l'
      | _=>false
    | .iptr l s=>match y with
      | .iptr l' s'=>Nat.beq s s' && allEq (avEq k) l l'
      | _=>false
    | .func s l=>match y with
      | .func s' l'=>Nat.beq s s' && allEq (avEq k) l l'
      | _=>false
    | .agg l=>match y with
      | .agg l'=>allEq (avEq k) l l'
      | _=>false
    | .tup l=>match y with
      | .tup l'=>allEq (avEq k) l l'
      | _=>false
    | _=>false
theorem avEq_ok:∀ (k:Nat) (x y:AV),avEq k x y=true→x=y
  | 0,_,_,h=>by cases h
  | k + 1,x,y,h=>by
    have ih:∀ {l m:List AV},allEq (avEq k) l m=true→l=m:=fun h=>allEq_ok (avEq_ok k) h
    cases x <;> simp only [avEq] at h <;> (try (cases h; done)) <;> cases y <;> simp only [Bool.and_eq_true,decide_eq_true_eq] at h <;> (try (cases h; done)) <;> (try rfl)
    · rw [h]
    · rw [h.1,h.2]
    · rw [h]
    · rw [Nat.eq_of_beq_eq_true h.1.1,Nat.eq_of_beq_eq_true h.1.2,Nat.eq_of_beq_eq_true h.2]
    · rw [Nat.eq_of_beq_eq_true h.1,ih h.2]
    · rw [Nat.eq_of_beq_eq_true h.1,ih h.2]
    · rw [Nat.eq_of_beq_eq_true h.1.1.1.1,Nat.eq_of_beq_eq_true h.1.1.1.2,Nat.eq_of_beq_eq_true h.1.1.2,Nat.eq_of_beq_eq_true h.1.2,Nat.eq_of_beq_eq_true h.2]
    · rw [show _=_ from Nat.eq_of_beq_eq_true h.1,ih h.2]
    · rw [Nat.eq_of_beq_eq_true h]
    · rw [Nat.eq_of_beq_eq_true h]
    · rw [ih h]
    · rw [ih h]
def loadAt (T:Tm):Ins→Option Nat
  | .ld1 a=>match ov T a with
    | .ptr b _ _=>some b
    | _=>none
  | .ldn _ a=>match ov T a with
    | .ptr b _ _=>some b
    | _=>none
  | _=>none
def preIds:List (Op2 × Nat)→TT→HT→List Nat→List Nat
  | [],_,_,acc=>acc
  | (o,0) :: l,T,H,acc=>match g2 (toT T) o.g with
    | some true=>match ival (toT T) (toH0 H) o.i with
      | some r=>match stT T o.d r with
        | some T'=>match loadAt (toT T) o.i with
          | some b=>preIds l T' H (b :: acc)
          | none=>preIds l T' H acc
        | none=>acc
      | none=>preIds l T H acc
    | _=>preIds l T H acc
  | (_,_ + 1) :: l,T,H,acc=>preIds l T H acc
def keepS (H0 H:HT):List Nat→Bool
  | []=>true
  | b :: l=>match toH0 H0 b with
    | none=>keepS H0 H l
    | some x=>match toH0 H b with
      | some y=>match allEq (avEq SF) x y with
        | true=>keepS H0 H l
        | false=>false
      | none=>false
def partS (H0:HT) (ids:List Nat):Hp:=fun b=>match ids.elem b with
  | true=>toH0 H0 b
  | false=>none
theorem keepS_ok {H0 H:HT}:∀ {ids:List Nat},keepS H0 H ids=true→∀ b cs,ids.elem b=true→toH0 H0 b=some cs→toH0 H b=some cs
  | [],_,b,cs,hb,_=>by cases hb
  | a :: l,h,b,cs,hb,hc=>by
    simp only [keepS] at h
    have hb':b=a ∨ l.elem b=true:=by
      rw [List.elem_cons] at hb
      cases e:b == a with
      | true=>exact .inl (eq_of_beq e)
      | false=>rw [e] at hb; exact .inr hb
    split at h
    · rename_i hn
      rcases hb' with rfl | hb'
      · rw [hn] at hc; cases hc
      · exact keepS_ok h b cs hb' hc
    · rename_i x hx
      split at h
      · rename_i y hy
        split at h
        · rename_i he
          rcases hb' with rfl | hb'
          · rw [hx] at hc; cases hc
            rw [hy,allEq_ok (avEq_ok SF) he]
          · exact keepS_ok h b cs hb' hc
        · cases h
      · cases h
theorem partS_sub {L:LV} {H0 H:HT} {ids:List Nat} (h:keepS H0 H ids=true):Sub (partS H0 ids) (toH L H):=fun b cs hb=>by
  unfold partS at hb
  split at hb
  · rename_i he
    exact toH0_sub b cs (keepS_ok h b cs he hb)
  · cases hb
def rops2S (cl:CL) (pc:PC) (yl:CL) (H0:HT) (ids:List Nat):List (Op2 × Nat)→TT→HT→Nat→Option (TT × HT × Nat)
  | [],T,H,nx=>some (T,H,nx)
  | (o,0) :: l,T,H,nx=>match g2 (toT T) o.g with
    | none=>none
    | some false=>match stT T o.d (.tup []) with
      | some T=>rops2S cl pc yl H0 ids l T H nx
      | none=>none
    | some true=>match ival (toT T) (partS H0 ids) o.i with
      | none=>none
      | some r=>frV r fun r=>match stT T o.d r with
        | some T=>rops2S cl pc yl H0 ids l T H nx
        | none=>none
  | (o,k + 1) :: l,T,H,nx=>match g2 (toT T) o.g with
    | none=>none
    | some false=>match stT T o.d (.tup []) with
      | some T=>rops2S cl pc yl H0 ids l T H nx
      | none=>none
    | some true=>if k=2 then (match ibld (toT T) o.i with
        | none=>none
        | some r=>frV r fun r=>match stT T o.d r with
          | some T=>rops2S cl pc yl H0 ids l T H nx
          | none=>none)
      else match rins cl pc yl .text o.i T H nx with
        | none=>none
        | some (r,H,nx)=>match (match k with | 0=>keepS H0 H ids | _=>true) with
          | true=>frV r fun r=>match stT T o.d r with
            | some T=>rops2S cl pc yl H0 ids l T H nx
            | none=>none
          | false=>none
theorem rops2S_ok {P:Program} {L:LV} {cl:CL} {pc:PC} {yl:CL} (hk:CLok P L cl pc yl) {H0:HT} {ids:List Nat} {K:SP}:∀ {l:List (Op2 × Nat)} {T T':TT} {H H':HT} {nx nx':Nat},
    rops2S cl pc yl H0 ids l T H nx=some (T',H',nx')→K (toT T') (toH L H') nx'→aops2S P (partS H0 ids) l (toT T) (toH L H) nx K
  | [],_,_,_,_,_,_,h,hK=>by cases h; exact hK
  | (o,0) :: l,T,T',H,H',nx,nx',h,hK=>by
    simp only [rops2S] at h
    show gbind (g2 (toT T) o.g) _ _
    cases hg:g2 (toT T) o.g with
    | none=>rw [hg] at h; cases h
    | some b =>
      rw [hg] at h
      cases b with
      | false =>
        simp only at h
        split at h
        · rename_i T1 hs
          have:=rops2S_ok hk h hK
          rw [toT_st hs] at this
          exact this
        · cases h
      | true =>
        simp only at h
        split at h
        · cases h
        · rename_i r hr
          simp only [frV_eq] at h
          split at h
          · rename_i T1 hs
            have:=rops2S_ok hk h hK
            rw [toT_st hs] at this
            show obind (ival (toT T) (partS H0 ids) o.i) _
            rw [hr]; exact this
          · cases h
  | (o,k + 1) :: l,T,T',H,H',nx,nx',h,hK=>by
    simp only [rops2S] at h
    show gbind (g2 (toT T) o.g) _ _
    cases hg:g2 (toT T) o.g with
    | none=>rw [hg] at h; cases h
    | some b =>
      rw [hg] at h
      cases b with
      | false =>
        simp only at h
        split at h
        · rename_i T1 hs
          have:=rops2S_ok hk h hK
          rw [toT_st hs] at this
          exact this
        · cases h
      | true =>
        simp only at h
        show if k=2 then _ else _
        split at h
        · rename_i h2
          rw [if_pos h2]
          split at h
          · cases h
          · rename_i r hr
            simp only [frV_eq] at h
            split at h
            · rename_i T1 hs
              have:=rops2S_ok hk h hK
              rw [toT_st hs] at this
              rw [hr]; exact this
            · cases h
        · rename_i h2
          rw [if_neg h2]
          split at h
          · cases h
          · rename_i r H1 nx1 hr
            split at h
            · rename_i hkeep
              simp only [frV_eq] at h
              split at h
              · rename_i T1 hs
                have:=rops2S_ok hk h hK
                rw [toT_st hs] at this
                refine rins_ok (K:=fun r H' nx'=>(k=0→Sub (partS H0 ids) H')∧aops2S P (partS H0 ids) l (updo (toT T) o.d r) H' nx' K) hk hr ⟨fun hk0=>?_,this⟩
                subst hk0
                exact partS_sub hkeep
              · cases h
            · cases h
def rvs (T:Tm) (H:Hp):List RV→Option (List AV)
  | []=>some []
  | a :: l=>match rv T H a with
    | some x=>match rvs T H l with
      | some xs=>some (x :: xs)
      | none=>none
    | none=>none
def rres (T:Tm) (H:Hp):List RV→Option AV
  | []=>some (.tup [])
  | [a]=>rv T H a
  | [a,b]=>match rv T H a,rv T H b with
    | some x,some y=>some (.tup [x,y])
    | _,_=>none
  | [a,b,c]=>match rv T H a,rv T H b,rv T H c with
    | some x,some y,some z=>some (.tup [x,y,z])
    | _,_,_=>none
  | a :: b :: c :: d :: l=>(rvs T H (a :: b :: c :: d :: l)).map .tup
theorem rresL_ok {T:Tm} {S H:Hp} (hs:Sub S H):∀ {l:List RV} {xs:List AV} {K:List AV→Prop},rvs T S l=some xs→K xs→resL T H l K
  | [],xs,K,h,hK=>by cases h; exact hK
  | a :: l,xs,K,h,hK=>by
    simp only [rvs] at h
    split at h
    · rename_i x hx
      split at h
      · rename_i ys hy
        cases h
        show obind (rv T H a) _
        rw [rv_sub hs hx]
        exact rresL_ok hs hy hK
      · cases h
    · cases h
theorem rres_ok {T:Tm} {S H:Hp} (hs:Sub S H) {l:List RV} {r:AV} {K:AV→Prop} (h:rres T S l=some r) (hK:K r):res1 T H K l:=by
  rcases l with _ | ⟨a,_ | ⟨b,_ | ⟨c,_ | ⟨d,l⟩⟩⟩⟩ <;> simp only [rres] at h
  · cases h; exact hK
  · exact r_1 (rv_sub hs h) hK
  · split at h
    · rename_i x y hx hy
      cases h; exact r_2 (rv_sub hs hx) (rv_sub hs hy) hK
    · cases h
  · split at h
    · rename_i x y z hx hy hz
      cases h; exact r_3 (rv_sub hs hx) (rv_sub hs hy) (rv_sub hs hz) hK
    · cases h
  · cases ho:rvs T S (a :: b :: c :: d :: l) with
    | none=>rw [ho] at h; cases h
    | some xs =>
      rw [ho] at h
      cases h
      exact rresL_ok hs ho hK
structure LFr where
  y:Nat
  ps:List Nat
  a:C2
  b:C2
  T:TT
abbrev RN:=List LFr→C2→TT→HT→Nat→Option (AEx × TT × HT × Nat)
def callT (code:FuncId→Option F2) (rn:RN) (fr:List LFr):CL:=fun g args H nx =>
  match code g with
  | none=>none
  | some F=>if args.length ≤ F.n then match ofArgs args with
      | none=>none
      | some T=>match rn fr F.body T H nx with
        | none=>none
        | some (e,T',H',nx')=>match e.ends with
          | true=>match rres (toT T') (toH0 H') F.res with
            | some r=>frV r fun r=>some (r,H',nx')
            | none=>none
          | false=>none
    else none
def callP (code:FuncId→Option F2) (rn:RN):PC:=fun g args H =>
  match optMap (snapV noBoxes SF) args with
  | some a=>match callT code rn [] g a .leaf 0 with
    | some (v,H',_)=>snapV (toH0 H') SF v
    | none=>none
  | none=>match optMap (snapV (toH0 H) SF) args with
    | some a=>match callT code rn [] g a .leaf 0 with
      | some (v,H',_)=>match snapV (toH0 H') SF v with
        | some r=>match r.sca with
          | true=>some r
          | false=>snapFV (toH0 H') SF v
        | none=>none
      | none=>none
    | none=>none
def reach (H:Hp):Nat→List AV→List Nat→List Nat
  | 0,_,acc=>acc
  | _ + 1,[],acc=>acc
  | k + 1,x :: l,acc=>match x with
    | .msl b _ _ _ _=>match acc.elem b with
      | true=>reach H k l acc
      | false=>reach H k ((H b).getD [] ++ l) (b :: acc)
    | .ptr b _ _=>match acc.elem b with
      | true=>reach H k l acc
      | false=>reach H k ((H b).getD [] ++ l) (b :: acc)
    | .sl _ cs=>reach H k (cs ++ l) acc
    | .iptr cs _=>reach H k (cs ++ l) acc
    | .func _ cs=>reach H k (cs ++ l) acc
    | .agg cs=>reach H k (cs ++ l) acc
    | .tup cs=>reach H k (cs ++ l) acc
    | _=>reach H k l acc
def RF2:Nat:=100000
def delAll:List Nat→HT→Option HT
  | [],H=>some H
  | b :: l,H=>match PT.set LIM H b none with
    | some H=>delAll l H
    | none=>none
def callZ (code:FuncId→Option F2) (rn:RN):CL:=fun g args H nx =>
  match optMap (snapV noBoxes SF) args with
  | some a=>match callT code rn [] g a .leaf 0 with
    | some (v,H',_)=>match snapV (toH0 H') SF v with
      | some r=>some (r,H,nx)
      | none=>none
    | none=>none
  | none=>match optMap (snapV (toH0 H) SF) args with
    | some a=>match callT code rn [] g a .leaf 0 with
      | some (v,H',_)=>match snapV (toH0 H') SF v with
        | some r=>match r.sca with
          | true=>some (r,H,nx)
          | false=>match snapFV (toH0 H') SF v with
            | some r=>some (r,H,nx)
            | none=>match delAll (reach (toH0 H) RF2 args []) H with
              | some H2=>match optMap (snapV (fun b=>match (toH0 H2 b).isSome with | true=>none | false=>toH0 H b) SF) args with
                | some a2=>match callT code rn [] g a2 .leaf 0 with
                  | some (v,H',_)=>match snapV (toH0 H') SF v with
                    | some r=>some (r,H2,nx)
                    | none=>none
                  | none=>none
                | none=>none
              | none=>none
        | none=>none
      | none=>none
    | none=>none
def callX (code:FuncId→Option F2) (pf:FuncId→Bool) (rn:RN) (fr:List LFr):CL:=fun g args H nx =>
  match pf g with
  | true=>callZ code rn g args H nx
  | false=>callT code rn fr g args H nx
def findF:List LFr→Nat→Option (LFr × List LFr)
  | [],_=>none
  | F :: l,y=>match Nat.beq F.y y with
    | true=>some (F,l)
    | false=>findF l y
def stL (T:TT):List Nat→List AV→Option TT
  | t :: ts,x :: xs=>match PT.set LIM T t (some x) with
    | some T=>stL T ts xs
    | none=>none
  | _,_=>some T
def isNormal:AEx→Bool
  | .normal=>true
  | _=>false
def yldT (rn:RN) (fr:List LFr):CL:=fun y args H nx =>
  match findF fr y with
  | none=>none
  | some (F,l)=>match H.get y with
    | some (.mark none)=>match Nat.beq args.length F.ps.length with
      | true=>match stL F.T F.ps args with
        | none=>none
        | some T1=>match rn l F.a T1 H nx with
          | some (.normal,T2,H2,nx2)=>match H2.get y with
            | some (.mark none)=>match PT.set LIM H2 y none with
              | none=>none
              | some H3=>match rn l F.b T2 H3 nx2 with
                | none=>none
                | some (e,T4,H4,nx4)=>match e with
                  | .normal=>match PT.set LIM H4 y (some (.mark none)) with
                    | some H5=>some (.bool true,H5,nx4)
                    | none=>none
                  | e=>match PT.set LIM H4 y (some (.mark (some e))) with
                    | some H5=>some (.bool false,H5,nx4)
                    | none=>none
            | _=>none
          | _=>none
      | false=>none
    | _=>none
def dmOf (m nx:Nat):DM:=match m with
  | 0=>.text
  | 1=>.draw
  | _=>.fresh nx
def dmOf' (m nx:Nat):DM:=match m with
  | 1=>.draw
  | _=>.fresh nx
def pack (x:Option (TT × HT × Nat)):Option (AEx × TT × HT × Nat):=match x with
  | some (T,H,nx)=>some (.normal,T,H,nx)
  | none=>none
def run (code:FuncId→Option F2) (pf:FuncId→Bool):Nat→RN
  | 0,_,_,_,_,_=>none
  | n + 1,fr,c,T,H,nx=>match c with
    | .skip=>some (.normal,T,H,nx)
    | .exit i=>some (.exit i,T,H,nx)
    | .ret=>some (.ret,T,H,nx)
    | .ops m l=>pack (rops (callX code pf (run code pf n) fr) (callP code (run code pf n)) (yldT (run code pf n) fr) (dmOf m nx) l T H nx)
    | .mix m l C=>match Nat.beq m 9 with
      | true=>pack (rops (callX code pf (run code pf n) fr) (callP code (run code pf n)) (yldT (run code pf n) fr) .text (C.map fun k=>l.getD k ⟨none,none,.dead⟩) T H nx)
      | false=>match rops (callX code pf (run code pf n) fr) (callP code (run code pf n)) (yldT (run code pf n) fr) (dmOf' m nx) l T H nx with
        | some x=>pack (some x)
        | none=>pack (rops (callX code pf (run code pf n) fr) (callP code (run code pf n)) (yldT (run code pf n) fr) .text (C.map fun k=>l.getD k ⟨none,none,.dead⟩) T H nx)
    | .mixS m l C=>match (match Nat.beq m 9 with
        | true=>none
        | false=>rops (callX code pf (run code pf n) fr) (callP code (run code pf n)) (yldT (run code pf n) fr) (dmOf' m nx) l T H nx) with
      | some x=>pack (some x)
      | none=>match keepS H H (preIds (C.map fun k=>(l.getD k.1 ⟨none,none,.dead⟩,k.2)) T H []) with
        | true=>pack (rops2S (callX code pf (run code pf n) fr) (callP code (run code pf n)) (yldT (run code pf n) fr) H (preIds (C.map fun k=>(l.getD k.1 ⟨none,none,.dead⟩,k.2)) T H []) (C.map fun k=>(l.getD k.1 ⟨none,none,.dead⟩,k.2)) T H nx)
        | false=>none
    | .seq a b=>match run code pf n fr a T H nx with
      | some (.normal,T,H,nx)=>run code pf n fr b T H nx
      | r=>r
    | .cond c a b=>match ov (toT T) c with
      | .bool true=>run code pf n fr a T H nx
      | .bool false=>run code pf n fr b T H nx
      | _=>none
    | .block id b=>match run code pf n fr b T H nx with
      | some (e,T,H,nx)=>some (ablock id e,T,H,nx)
      | none=>none
    | .loop b=>match run code pf n fr b T H nx with
      | some (.normal,T,H,nx)=>run code pf n fr (.loop b) T H nx
      | r=>r
    | .rangeF g ps a b=>match ov (toT T) g with
      | .func f caps=>match findF fr nx with
        | some _=>none
        | none=>match PT.set LIM H nx (some (.mark none)) with
          | none=>none
          | some H1=>match callT code (run code pf n) (⟨nx,ps,a,b,T⟩ :: fr) f (.yld nx :: caps) H1 (nx + 1) with
            | none=>none
            | some (_,H2,nx2)=>match H2.get nx with
              | some (.mark st)=>match PT.set LIM H2 nx none with
                | none=>none
                | some H3=>match st with
                  | none=>some (.normal,T,H3,nx2)
                  | some e=>match isNormal e with
                    | true=>none
                    | false=>some (e,T,H3,nx2)
              | _=>none
      | _=>none
def Codes (P:Program) (code:FuncId→Option F2):Prop:=∀ {f:FuncId} {F:F2},code f=some F→Is P f F
def FramesOk (P:Program) (L:LV):List LFr→Prop
  | []=>True
  | F :: fr => (∀ (args : List AV) (H' : Hp) (nx' : Nat) (K' : AV → Hp → Nat → Prop), H' F.y = some (L F.y none) → args.length = F.ps.length →
        awp2 P F.a (updl (toT F.T) F.ps args) H' nx' (fun e T2 H2 nx2=>athen e (H2 F.y=some (L F.y none)∧awp2 P F.b T2 (hdel H2 F.y) nx2 fun e T3 H3 nx3=>athen e (K' (.bool true) (hupd H3 F.y (L F.y none)) nx3) (K' (.bool false) (hupd H3 F.y (L F.y (some e))) nx3)) False) →
        Yl P F.y args H' nx' K')∧FramesOk P L fr
def named:List Nat→FuncId→Bool
  | [],_=>false
  | k :: l,f=>match Nat.beq k f with
    | true=>true
    | false=>named l f
theorem findF_ok {P:Program} {L:LV}:∀ {fr:List LFr} {y:Nat} {F:LFr} {l:List LFr},FramesOk P L fr→findF fr y=some (F,l)→F.y=y∧FramesOk P L (F :: l)
  | [],_,_,_,_,h=>by cases h
  | G :: fr,y,F,l,hf,h=>by
    simp only [findF] at h
    split at h
    · rename_i e
      cases h
      exact ⟨Nat.eq_of_beq_eq_true e,hf⟩
    · exact findF_ok hf.2 h
theorem findF_none {P:Program} {L L':LV} {y:Nat} (hL:∀ b e,b ≠ y→L' b e=L b e):∀ {fr:List LFr},FramesOk P L fr→findF fr y=none→FramesOk P L' fr
  | [],_,_=>trivial
  | G :: fr,hf,h=>by
    simp only [findF] at h
    split at h
    · cases h
    · rename_i e
      have hne:G.y ≠ y:=fun he=>by rw [he,Nat.beq_refl] at e; cases e
      refine ⟨?_,findF_none hL hf.2 h⟩
      have h1:∀ e,L' G.y e=L G.y e:=fun e=>hL _ _ hne
      simp only [h1]
      exact hf.1
theorem stL_ok:∀ {ts:List Nat} {xs:List AV} {T T':TT},stL T ts xs=some T'→toT T'=updl (toT T) ts xs
  | [],_,_,_,h=>by cases h; rfl
  | _ :: _,[],_,_,h=>by cases h; rfl
  | t :: ts,x :: xs,T,T',h=>by
    simp only [stL] at h
    split at h
    · rename_i T1 h1
      rw [stL_ok h,toT_set h1]
      rfl
    · cases h
structure RunOk (P:Program) (rn:RN):Prop where
  ok:∀ {L:LV} {fr:List LFr} {c:C2} {T T':TT} {H H':HT} {nx nx':Nat} {e:AEx} {K:CP},FramesOk P L fr→rn fr c T H nx=some (e,T',H',nx')→K e (toT T') (toH L H') nx'→awp2 P c (toT T) (toH L H) nx K
theorem callT_body {P:Program} {code:FuncId→Option F2} (hc:Codes P code) {rn:RN} (hr:RunOk P rn) {L:LV} {fr:List LFr} (hf:FramesOk P L fr) {g:FuncId} {args:List AV} {H H':HT} {nx nx':Nat} {r:AV}
    (h:callT code rn fr g args H nx=some (r,H',nx')):∃ F,Is P g F∧args.length ≤ F.n∧∀ K:AV→Hp→Nat→Prop,K r (toH L H') nx'→awp2 P F.body (T0 args) (toH L H) nx fun e T H nx=>bbind e.ends (res1 T H (fun x=>K x H nx) F.res):=by
  unfold callT at h
  split at h
  · cases h
  · rename_i F hF
    split at h
    · rename_i hl
      split at h
      · cases h
      · rename_i T hT
        split at h
        · cases h
        · rename_i e T' H1 nx1 hrun
          split at h
          · rename_i he
            split at h
            · rename_i r1 hres
              simp only [frV_eq] at h
              cases h
              refine ⟨F,hc hF,hl,fun K hK=>?_⟩
              rw [← ofArgs_ok hT]
              exact hr.ok hf hrun ⟨he,rres_ok toH0_sub hres hK⟩
            · cases h
          · cases h
    · cases h
def L0:LV:=fun _ _=>[]
theorem callP_ok {P:Program} {code:FuncId→Option F2} (hm:P.follows .mixedOrders=true) (hc:Codes P code) {rn:RN} (hr:RunOk P rn) {L:LV} {g:FuncId} {args:List AV} {H:HT} {r:AV} (h:callP code rn g args H=some r):CallOk P g args (toH L H) r:=by
    have hf0:FramesOk P L0 []:=trivial
    have n0:Sub noBoxes noBoxes:=fun _ _ h=>h
    unfold callP at h
    split at h
    · rename_i a ha
      split at h
      · rename_i v H' nx' hcall
        obtain ⟨F,h1,h2,h3⟩:=callT_body hc hr hf0 hcall
        have hp:Pure P g a r:=Pure.of_c2 hm h1 h2 (h3 (fun x H _=>Snap H x r) (snapV_ok toH0_sub _ h))
        obtain ⟨o1,o2⟩:=optMap_ok ha
        exact hp.callOk (.inl ⟨o1,fun i x y hx hy=>snapV_ok n0 _ (o2 i x y hx hy)⟩)
      · cases h
    · split at h
      · rename_i a ha
        obtain ⟨o1,o2⟩:=optMap_ok ha
        have hs:SnapL (toH L H) args a:=⟨o1,fun i x y hx hy=>snapV_ok toH0_sub _ (o2 i x y hx hy)⟩
        split at h
        · rename_i v H' nx' hcall
          obtain ⟨F,h1,h2,h3⟩:=callT_body hc hr hf0 hcall
          split at h
          · rename_i r1 hr1
            split at h
            · rename_i hsc
              cases h
              have hp:Pure P g a r:=Pure.of_c2 hm h1 h2 (h3 (fun x H _=>Snap H x r) (snapV_ok toH0_sub _ hr1))
              exact hp.callOk (.inr ⟨hs,hsc⟩)
            · have hp:PureF P g a r:=PureF.of_c2 hm h1 h2 (h3 (fun x H _=>SnapF H x r) (snapFV_ok toH0_sub _ h))
              exact hp.callOk hs
          · cases h
        · cases h
      · cases h
theorem delAll_get:∀ {l:List Nat} {H H2:HT},delAll l H=some H2→∀ {b:Nat} {c:BC},H2.get b=some c→H.get b=some c
  | [],_,_,h,_,_,hb=>by cases h; exact hb
  | b :: l,H,H2,h,b',c,hb=>by
    simp only [delAll] at h
    split at h
    · rename_i H1 h1
      have:=delAll_get h hb
      rw [PT.get_set _ h1] at this
      split at this
      · cases this
      · exact this
    · cases h
theorem delAll_ok {L:LV}:∀ {l:List Nat} {H H2:HT},delAll l H=some H2→∀ b cs,toH L H2 b=some cs→toH L H b=some cs
  | [],_,_,h=>by cases h; exact fun _ _ h=>h
  | b :: l,H,H2,h=>by
    simp only [delAll] at h
    split at h
    · rename_i H1 h1
      intro b' cs hb
      have:=delAll_ok h b' cs hb
      rw [toH_del h1] at this
      exact (hdel_some this).2
    · cases h
theorem callZ_ok {P:Program} {code:FuncId→Option F2} (hm:P.follows .mixedOrders=true) (hc:Codes P code) {rn:RN} (hr:RunOk P rn) {L:LV} {g:FuncId} {args:List AV} {H H2:HT} {nx nx':Nat} {r:AV} {R:AV→Hp→Nat→Prop} (h:callZ code rn g args H nx=some (r,H2,nx')) (hR:R r (toH L H2) nx'):Fn P g args (toH L H) nx R:=by
  have hf0:FramesOk P L0 []:=trivial
  have n0:Sub noBoxes noBoxes:=fun _ _ h=>h
  unfold callZ at h
  split at h
  · rename_i a ha
    split at h
    · rename_i v H' nx1 hcall
      split at h
      · rename_i r1 hr1
        cases h
        obtain ⟨F,h1,h2,h3⟩:=callT_body hc hr hf0 hcall
        have hp:Pure P g a r:=Pure.of_c2 hm h1 h2 (h3 (fun x H _=>Snap H x r) (snapV_ok toH0_sub _ hr1))
        obtain ⟨o1,o2⟩:=optMap_ok ha
        exact Fn.of_pure hp (.inl ⟨o1,fun i x y hx hy=>snapV_ok n0 _ (o2 i x y hx hy)⟩) hR
      · cases h
    · cases h
  · split at h
    · rename_i a ha
      obtain ⟨o1,o2⟩:=optMap_ok ha
      have hs:SnapL (toH L H) args a:=⟨o1,fun i x y hx hy=>snapV_ok toH0_sub _ (o2 i x y hx hy)⟩
      split at h
      · rename_i v H' nx1 hcall
        obtain ⟨F,h1,h2,h3⟩:=callT_body hc hr hf0 hcall
        split at h
        · rename_i r1 hr1
          split at h
          · rename_i hsc
            cases h
            have hp:Pure P g a r:=Pure.of_c2 hm h1 h2 (h3 (fun x H _=>Snap H x r) (snapV_ok toH0_sub _ hr1))
            exact Fn.of_pure hp (.inr ⟨hs,hsc⟩) hR
          · split at h
            · rename_i r2 hr2
              cases h
              have hp:PureF P g a r:=PureF.of_c2 hm h1 h2 (h3 (fun x H _=>SnapF H x r) (snapFV_ok toH0_sub _ hr2))
              exact Fn.of_callOk (hp.callOk hs) hR
            · split at h
              · rename_i H3 hdel
                split at h
                · rename_i a2 ha2
                  obtain ⟨q1,q2⟩:=optMap_ok ha2
                  split at h
                  · rename_i v2 H4 nx4 hcall2
                    obtain ⟨F2,k1,k2,k3⟩:=callT_body hc hr hf0 hcall2
                    split at h
                    · rename_i r2 hr2
                      cases h
                      have hp:Pure P g a2 r:=Pure.of_c2 hm k1 k2 (k3 (fun x H _=>Snap H x r) (snapV_ok toH0_sub _ hr2))
                      have hsubF:Sub (fun b=>match (toH0 H2 b).isSome with | true=>none | false=>toH0 H b) (fun b=>match (toH0 H2 b).isSome with | true=>none | false=>toH0 H b):=fun _ _ h=>h
                      refine Fn.of_pureZ (Hf:=fun b=>match (toH0 H2 b).isSome with | true=>none | false=>toH0 H b) hp (fun b cs hb=>?_) (fun b cs hb=>⟨delAll_ok hdel b cs hb,?_⟩) ⟨q1,fun i x y hx hy=>snapV_ok hsubF _ (q2 i x y hx hy)⟩ hR
                      · split at hb
                        · cases hb
                        · exact toH0_sub b cs hb
                      · split
                        · rfl
                        · rename_i hn
                          have:=delAll_ok hdel b cs hb
                          unfold toH0 at hn ⊢
                          unfold toH at hb this
                          cases hg:H2.get b with
                          | none=>rw [hg] at hb; cases hb
                          | some c =>
                            cases c with
                            | cells cs'=>rw [hg] at hn; cases hn
                            | mark e =>
                              cases hg2:H.get b with
                              | none=>rfl
                              | some c2=>cases c2 with
                                | mark e2=>rfl
                                | cells cs2=>exact absurd (delAll_get hdel hg) (by rw [hg2]; intro h; cases h)
                    · cases h
                  · cases h
                · cases h
              · cases h
        · cases h
      · cases h
    · cases h
theorem calls_ok {P:Program} {code:FuncId→Option F2} {pf:FuncId→Bool} (hm:P.follows .mixedOrders=true) (hc:Codes P code) {rn:RN} (hr:RunOk P rn) {L:LV} {fr:List LFr} (hf:FramesOk P L fr):CLok P L (callX code pf rn fr) (callP code rn) (yldT rn fr) where
  cl:=fun {g args H H' nx nx' r R} h hR=>by
    unfold callX at h
    split at h
    · exact callZ_ok hm hc hr h hR
    · obtain ⟨F,h1,h2,h3⟩:=callT_body hc hr hf h
      exact Fn.of_c2 hm h1 h2 (h3 _ hR)
  pc:=fun {g args H r} h=>callP_ok hm hc hr h
  yl:=fun {y args H H' nx nx' r R} h hR=>by
    unfold yldT at h
    split at h
    · cases h
    · rename_i F l hF
      obtain ⟨rfl,hfr⟩:=findF_ok hf hF
      obtain ⟨hy,hl⟩:=hfr
      split at h
      · rename_i hg
        split at h
        · rename_i hlen
          split at h
          · cases h
          · rename_i T1 hT1
            split at h
            · rename_i T2 H2 nx2 hrun
              split at h
              · rename_i hg2
                split at h
                · cases h
                · rename_i H3 hdel3
                  split at h
                  · cases h
                  · rename_i e T4 H4 nx4 hrun2
                    refine hy args (toH L H) nx R (by simp only [toH,hg,bcL]) (Nat.eq_of_beq_eq_true hlen) ?_
                    rw [← stL_ok hT1]
                    refine hr.ok (K:=fun e T2 H2 nx2=>athen e (H2 F.y=some (L F.y none)∧awp2 P F.b T2 (hdel H2 F.y) nx2 fun e T3 H3 nx3=>athen e (R (.bool true) (hupd H3 F.y (L F.y none)) nx3) (R (.bool false) (hupd H3 F.y (L F.y (some e))) nx3)) False) hl hrun ⟨by simp only [toH,hg2,bcL],?_⟩
                    rw [← toH_del hdel3]
                    refine hr.ok hl hrun2 ?_
                    cases e with
                    | normal =>
                      simp only at h
                      split at h
                      · rename_i H5 h5
                        cases h
                        rw [toH_mark h5] at hR
                        exact hR
                      · cases h
                    | exit i =>
                      simp only at h
                      split at h
                      · rename_i H5 h5
                        cases h
                        rw [toH_mark h5] at hR
                        exact hR
                      · cases h
                    | ret =>
                      simp only at h
                      split at h
                      · rename_i H5 h5
                        cases h
                        rw [toH_mark h5] at hR
                        exact hR
                      · cases h
              · cases h
            · cases h
        · cases h
      · cases h
theorem pack_ok {x:Option (TT × HT × Nat)} {e:AEx} {T:TT} {H:HT} {nx:Nat} (h:pack x=some (e,T,H,nx)):x=some (T,H,nx)∧e=.normal:=by
  unfold pack at h
  split at h
  · cases h; exact ⟨rfl,rfl⟩
  · cases h
theorem run_ok {P:Program} {code:FuncId→Option F2} {pf:FuncId→Bool} (hm:P.follows .mixedOrders=true) (hc:Codes P code):∀ n,RunOk P (run code pf n)
  | 0=>⟨fun _ h=>by cases h⟩
  | n + 1=>by
    refine ⟨?_⟩
    intro L fr c T T' H H' nx nx' e K hf h hK
    have ih:RunOk P (run code pf n):=run_ok hm hc n
    have hk:=calls_ok (pf:=pf) hm hc ih hf
    cases c with
    | skip=>cases h; exact hK
    | exit i=>cases h; exact hK
    | ret=>cases h; exact hK
    | ops m l =>
      obtain ⟨h1,rfl⟩:=pack_ok h
      have:=rops_ok hk (K:=K .normal) h1 hK
      refine ⟨_,_,_,_,Gh.refl _ _ _,?_⟩
      unfold dmOf at this
      exact this
    | mix m l C =>
      simp only [run] at h
      split at h
      · obtain ⟨h1,rfl⟩:=pack_ok h
        exact .inr ⟨_,_,_,_,Gh.refl _ _ _,rops_ok hk (K:=K .normal) h1 hK⟩
      · rename_i hb
        split at h
        · rename_i x hx
          obtain ⟨h1,rfl⟩:=pack_ok h
          cases h1
          have:=rops_ok hk (K:=K .normal) hx hK
          refine .inl ⟨fun e=>?_,_,_,_,_,Gh.refl _ _ _,?_⟩
          · subst e; cases hb
          · unfold dmOf' at this; exact this
        · obtain ⟨h1,rfl⟩:=pack_ok h
          exact .inr ⟨_,_,_,_,Gh.refl _ _ _,rops_ok hk (K:=K .normal) h1 hK⟩
    | mixS m l C =>
      simp only [run] at h
      split at h
      · rename_i x hx
        split at hx
        · cases hx
        · rename_i hb
          obtain ⟨h1,rfl⟩:=pack_ok h
          cases h1
          have:=rops_ok hk (K:=K .normal) hx hK
          refine .inl ⟨fun e=>?_,_,_,_,_,Gh.refl _ _ _,?_⟩
          · subst e; cases hb
          · unfold dmOf' at this; exact this
      · split at h
        · rename_i hkeep
          obtain ⟨h1,rfl⟩:=pack_ok h
          exact .inr ⟨_,_,_,_,_,Gh.refl _ _ _,partS_sub hkeep,rops2S_ok hk (K:=K .normal) h1 hK⟩
        · cases h
    | seq a b =>
      simp only [run] at h
      split at h
      · rename_i T1 H1 nx1 h1
        exact w_seq (ih.ok (K:=fun e T H nx=>athen e (awp2 P b T H nx K) (K e T H nx)) hf h1 (ih.ok hf h hK))
      · rename_i hne
        refine w_seq (ih.ok (K:=fun e T H nx=>athen e (awp2 P b T H nx K) (K e T H nx)) hf h ?_)
        cases e with
        | normal=>exact absurd h (hne _ _ _)
        | exit i=>exact hK
        | ret=>exact hK
    | cond c a b =>
      simp only [run] at h
      split at h
      · rename_i hv
        exact w_condT hv (ih.ok hf h hK)
      · rename_i hv
        exact w_condF hv (ih.ok hf h hK)
      · cases h
    | block id b =>
      simp only [run] at h
      split at h
      · rename_i e1 T1 H1 nx1 h1
        cases h
        exact w_block (ih.ok (K:=fun e T H nx=>K (ablock id e) T H nx) hf h1 hK)
      · cases h
    | loop b =>
      simp only [run] at h
      split at h
      · rename_i T1 H1 nx1 h1
        obtain ⟨k,hl⟩:=ih.ok hf h hK
        exact ⟨k + 1,_,_,_,_,Gh.refl _ _ _,ih.ok (K:=fun e T H nx=>athen e (aloopN (awp2 P b) K k T H nx) (K e T H nx)) hf h1 hl⟩
      · rename_i hne
        refine ⟨1,_,_,_,_,Gh.refl _ _ _,ih.ok (K:=fun e T H nx=>athen e (aloopN (awp2 P b) K 0 T H nx) (K e T H nx)) hf h ?_⟩
        cases e with
        | normal=>exact absurd h (hne _ _ _)
        | exit i=>exact hK
        | ret=>exact hK
    | rangeF g ps a b =>
      simp only [run] at h
      split at h
      · rename_i f caps hg
        split at h
        · cases h
        · rename_i hnone
          split at h
          · cases h
          · rename_i H1 hset
            split at h
            · cases h
            · rename_i v H2 nx2 hcall
              split at h
              · rename_i st hst
                split at h
                · cases h
                · rename_i H3 hdel3
                  refine w_rangeF hg fun c0 cj hy=>?_
                  let L':LV:=fun b e=>if b=nx then (match e with | none=>[c0] | some e=>[cj e]) else L b e
                  have hL:∀ b e,b ≠ nx→L' b e=L b e:=fun b e hb=>if_neg hb
                  have hn:L' nx none=[c0]:=if_pos rfl
                  have hs:∀ e,L' nx (some e)=[cj e]:=fun e=>if_pos rfl
                  have hf':FramesOk P L' (⟨nx,ps,a,b,T⟩ :: fr):=by
                    refine ⟨?_,findF_none hL hf hnone⟩
                    intro args H' nx' K' h1 h2 h3
                    simp only [hn,hs] at h1 h3
                    exact hy args H' nx' K' h1 h2 h3
                  have e1:hupd (toH L H) nx [c0]=toH L' H1:=by
                    rw [toH_mark hset,hn]
                    funext m
                    simp only [hupd]
                    split
                    · rfl
                    · rename_i hm
                      simp only [toH]
                      cases H.get m with
                      | none=>rfl
                      | some x=>cases x with
                        | cells cs=>rfl
                        | mark e=>simp only [bcL,hL m e hm]
                  have e2:hdel (toH L' H2) nx=toH L H3:=by
                    rw [toH_del hdel3]
                    funext m
                    simp only [hdel]
                    split
                    · rfl
                    · rename_i hm
                      simp only [toH]
                      cases H2.get m with
                      | none=>rfl
                      | some x=>cases x with
                        | cells cs=>rfl
                        | mark e=>simp only [bcL,hL m e hm]
                  rw [e1]
                  obtain ⟨F,k1,k2,k3⟩:=callT_body hc ih hf' hcall
                  refine Fn.of_c2 hm k1 k2 (k3 _ ?_)
                  cases st with
                  | none =>
                    cases h
                    left
                    refine ⟨by simp only [toH,hst,bcL,hn],?_⟩
                    rw [e2]; exact hK
                  | some e1' =>
                    simp only at h
                    split at h
                    · cases h
                    · rename_i hnn
                      cases h
                      right
                      refine ⟨e,(fun hh=>by rw [hh] at hnn; cases hnn),by simp only [toH,hst,bcL,hs],?_⟩
                      rw [e2]; exact hK
              · cases h
      · cases h
def runP (code:FuncId→Option F2) (pf:FuncId→Bool) (n:Nat) (f:FuncId) (args:List AV) (good:AV→Bool):Bool :=
  match callT code (run code pf n) [] f args .leaf 0 with
  | some (v,H',_)=>match snapV (toH0 H') SF v with
    | some r=>good r
    | none=>false
  | none=>false
theorem Pure.of_run {P:Program} {code:FuncId→Option F2} {pf:FuncId→Bool} (hm:P.follows .mixedOrders=true) (hc:Codes P code) {n:Nat} {f:FuncId} {args:List AV} {good:AV→Bool} {r:AV} (h:runP code pf n f args good=true) (hg:∀ x,good x=true→x=r):Pure P f args r:=by
  unfold runP at h
  split at h
  · rename_i v H' nx' hcall
    split at h
    · rename_i r1 hr1
      have:=hg _ h
      subst this
      obtain ⟨F,h1,h2,h3⟩:=callT_body hc (run_ok hm hc n) (L:=L0) (fr:=[]) trivial hcall
      exact Pure.of_c2 hm h1 h2 (h3 (fun x H _=>Snap H x r1) (snapV_ok toH0_sub _ hr1))
    · cases h
  · cases h
def isTrue:AV→Bool | .bool true=>true | _=>false
theorem isTrue_eq:∀ x,isTrue x=true→x=.bool true:=by
  intro x h
  cases x <;> try (cases h; done)
  rename_i b
  cases b
  · cases h
  · rfl
def lookup:List (Nat × F2)→FuncId→Option F2
  | [],_=>none
  | (k,F) :: l,f=>match Nat.beq k f with
    | true=>some F
    | false=>lookup l f
theorem codes_nil {P:Program}:Codes P (lookup []):=fun h=>by cases h
theorem codes_cons {P:Program} {k:Nat} {F:F2} {l:List (Nat × F2)} (h:Is P k F) (hs:Codes P (lookup l)):Codes P (lookup ((k,F) :: l)):=fun {f F'} hf=>by
  simp only [lookup] at hf
  split at hf
  · rename_i e
    cases hf
    rw [Nat.eq_of_beq_eq_true e] at h
    exact h
  · exact hs hf
end Go.Abs
namespace Go.Abs
open Go Go.RowKit
def oldB (W:World):Nat→Prop:=fun b=>b < W.heap.size
theorem oldB_cell {W:World} {a:Addr} {v:Value} (h:W.cell? a=some v):oldB W a.block∧a.spot=none:=by
  unfold World.cell? at h
  unfold oldB
  cases hb:W.heap[a.block]? with
  | none=>simp [hb] at h
  | some o =>
    refine ⟨(Array.getElem?_eq_some_iff.1 hb).1,?_⟩
    cases hs:a.spot with
    | none=>rfl
    | some s=>cases o <;> simp [hb,hs] at h
section
variable {H:Type} {enc:TypeId × Value→H} {P:Program} {W:World}
def Opens (enc:TypeId × Value→H) (P:Program) (W:World) (t:TypeId) {α:Type} (f:α→AV) (good:α→Prop):Prop :=
  ∀ (n:Nat) (cs:List Value) (x:DataW H × List MemPlace),DataW.trod enc P W 0 (fun _=>true) true n t cs=some x→(∀ k ∈ x.1.weights P t,k ≤ reachBytes)→∃ a:α,good a∧RelL (E0 (oldB W)) W (f a).cells cs
theorem Opens.mono {t:TypeId} {α:Type} {f:α→AV} {good good':α→Prop} (h:Opens enc P W t f good) (hg:∀ a,good a→good' a):Opens enc P W t f good' :=
  fun n cs x hx hw=>let ⟨a,h1,h2⟩:=h n cs x hx hw; ⟨a,hg a h1,h2⟩
theorem relL_one {E:Env} {w:World} {x:AV} {y:Value} (h:Rel E w x y):RelL E w [x] [y]:=⟨rfl,fun i a b ha hb=>by
  cases i with
  | zero=>simp at ha hb; subst ha hb; exact h
  | succ i=>simp at ha⟩
theorem RelL.app {E:Env} {w:World} {xs xs':List AV} {ys ys':List Value} (h:RelL E w xs ys) (h':RelL E w xs' ys'):RelL E w (xs ++ xs') (ys ++ ys'):=by
  have hl:xs.length=ys.length:=h.1.symm
  refine ⟨by simp [h.1,h'.1],fun i a b ha hb=>?_⟩
  by_cases hi:i < xs.length
  · rw [List.getElem?_append_left hi] at ha
    rw [List.getElem?_append_left (by omega)] at hb
    exact h.2 i a b ha hb
  · rw [List.getElem?_append_right (by omega)] at ha
    rw [List.getElem?_append_right (by omega)] at hb
    rw [hl] at ha
    exact h'.2 _ a b ha hb
theorem opens_int {t:TypeId} {k:IntKind} (ht:P.underlying t=some (.int k)):Opens enc P W t (AV.int k) (fun n=>(Lit.int k n).wf=true):=fun n cs x hx _=>by
  obtain ⟨a,rfl,rfl,hw⟩:=DataW.trod_int ht hx
  exact ⟨a,hw,relL_one (.int _ _)⟩
theorem weightsAll_mem {e:TypeId} {l:List (DataW H)} {d:DataW H} (h:d ∈ l) {k:Nat} (hk:k ∈ d.weights P e):k ∈ DataW.weightsAll P e l:=by
  induction l with
  | nil=>cases h
  | cons a l ih =>
    unfold DataW.weightsAll
    rcases List.mem_cons.1 h with rfl | h
    · exact List.mem_append_left _ hk
    · exact List.mem_append_right _ (ih h)
theorem choose_list {α:Type} {len:Nat} {Q:Nat→α→Prop} (h:∀ i,i < len→∃ a,Q i a):∃ l:List α,l.length=len∧∀ i a,l[i]?=some a→Q i a:=by
  induction len with
  | zero=>exact ⟨[],rfl,fun i a h=>by simp at h⟩
  | succ n ih =>
    obtain ⟨l,h1,h2⟩:=ih (fun i hi=>h i (by omega))
    obtain ⟨a,ha⟩:=h n (by omega)
    refine ⟨l ++ [a],by simp [h1],fun i b hb=>?_⟩
    by_cases hi:i < l.length
    · rw [List.getElem?_append_left hi] at hb; exact h2 i b hb
    · rw [List.getElem?_append_right (by omega)] at hb
      have:i - l.length=0:=by
        by_cases h0:i - l.length=0
        · exact h0
        · rw [List.getElem?_eq_none (by simp; omega)] at hb; cases hb
      rw [this] at hb; simp at hb; subst hb
      have:i=n:=by omega
      subst this; exact ha
theorem opens_slice {t e:TypeId} {sz by_:Nat} {α:Type} {f:α→AV} {good:α→Prop} (ht:P.underlying t=some (.slice e)) (hsz:P.cellsOf e=sz) (hby:P.bytesOf e=by_) (hpos:0 < sz) (hc:∀ a,(f a).cells.length=sz)
    (he:Opens enc P W e f good):Opens enc P W t (encL sz f) (fun l=>(∀ a ∈ l,good a)∧l.length ≤ 9223372036854775807∧l.length * by_ ≤ 140737488351232):=fun n cs x hx hw=>by
  rcases Go.Deep.open_slice ht hx with ⟨rfl,rfl⟩ | ⟨a,len,cap,m,n',D,Pl,rfl,hb,hlc,hcm,hm,hxe,hel⟩
  · exact ⟨[],⟨fun _ h=>(by cases h),by simp,by simp⟩,relL_one (.slnil _)⟩
  simp only [if_true] at hm
  subst hxe
  subst hm
  have hw':∀ k ∈ ((DataW.slice (H:=H) ((List.range len).map D) ((List.range (m - len)).map fun j=>D (len + j))).weights P t),k ≤ reachBytes:=hw
  simp only [DataW.weights,ht] at hw'
  have hlen:(((List.range len).map D).length + ((List.range (m - len)).map fun j=>D (len + j)).length) * P.bytesOf e ≤ reachBytes:=hw' _ (List.mem_cons_self ..)
  have hbd:len * by_ ≤ 140737488351232:=by
    rw [hby] at hlen
    simp only [List.length_map,List.length_range] at hlen
    have h1:len * by_ ≤ (len + (m - len)) * by_:=Nat.mul_le_mul_right _ (by omega)
    have h2:reachBytes=140737488351232:=rfl
    omega
  have hlm:len ≤ 9223372036854775807:=Nat.le_trans hlc hcm
  have key:∀ i,i < len→∃ a':α,good a'∧∃ cs',W.cells? 0 (a.add (i * sz)) sz=some cs'∧RelL (E0 (oldB W)) W (f a').cells cs':=fun i hi=>by
    obtain ⟨cs',h1,h2⟩:=hel i (by omega)
    rw [hsz] at h1
    obtain ⟨a',g1,g2⟩:=he n' cs' _ h2 (fun k hk=>hw' k (List.mem_cons_of_mem _ (List.mem_append_left _ (weightsAll_mem (List.mem_map.2 ⟨i,List.mem_range.2 hi,rfl⟩) hk))))
    exact ⟨a',g1,cs',h1,g2⟩
  obtain ⟨l,hl,hq⟩:=choose_list key
  refine ⟨l,⟨fun x hx=>?_,by omega,by rw [hl]; exact hbd⟩,relL_one ?_⟩
  · obtain ⟨i,hi⟩:=List.getElem?_of_mem hx
    exact (hq i x hi).1
  by_cases h0:len=0
  · subst h0
    have:l=[]:=List.length_eq_zero_iff.1 hl
    subst this
    exact .slempty _ _ _
  have hcell:∀ i j,i < len→j < sz→∃ v,W.cell? ((a.add (i * sz)).add j)=some v:=fun i j hi hj=>by
    obtain ⟨a',_,cs',h1,h2⟩:=key i hi
    unfold World.cells? at h1
    rw [if_pos (Nat.zero_le _)] at h1
    have h3:=mapM_some_get h1 j j (by simp [hj])
    have h4:j < cs'.length:=by
      have:=mapM_some_length h1
      simp at this; omega
    exact ⟨cs'[j],by rw [h3]; simp [h4]⟩
  obtain ⟨v0,hv0⟩:=hcell 0 0 (by omega) hpos
  have ho:=oldB_cell hv0
  simp only [Nat.zero_mul,Addr.add,if_true] at ho
  obtain ⟨blk,off,sp⟩:=a
  obtain ⟨ho,hsp⟩:=ho
  simp only at hsp ho
  subst hsp
  have hadd:∀ i j,((⟨blk,off,none⟩:Addr).add (i * sz)).add j=⟨blk,off + (i * sz + j),none⟩:=fun i j=>by
    rw [addr_add,addr_add,Nat.add_assoc]
  have hcell':∀ k,k < len * sz→∃ v,W.cell? ⟨blk,off + k,none⟩=some v:=fun k hk=>by
    have h1:k / sz < len:=Nat.div_lt_of_lt_mul (by rw [Nat.mul_comm]; exact hk)
    have h2:k % sz < sz:=Nat.mod_lt _ hpos
    obtain ⟨v,hv⟩:=hcell (k / sz) (k % sz) h1 h2
    rw [hadd,Nat.div_add_mod'] at hv
    exact ⟨v,hv⟩
  have hlen2:(l.map f).length=len:=by simp [hl]
  have:=Rel.sl (E:=E0 (oldB W)) (w:=W) sz (l.map f) blk off m (fun k=>(W.cell? ⟨blk,off + k,none⟩).getD Go.undef) ho (by rw [hlen2]; exact hlc)
    (fun x hx=>by obtain ⟨b,_,rfl⟩:=List.mem_map.1 hx; exact hc b)
    (fun k hk=>by
      rw [hlen2] at hk
      obtain ⟨v,hv⟩:=hcell' k hk
      simp only [hv,Option.getD_some])
    (fun i j x y hx hy=>by
      rw [List.getElem?_map,Option.map_eq_some_iff] at hx
      obtain ⟨a',ha',rfl⟩:=hx
      obtain ⟨_,cs',h1,h2⟩:=hq i a' ha'
      have hj:j < sz:=by
        have:=(List.getElem?_eq_some_iff.1 hy).1
        rwa [hc] at this
      have hi:i < len:=by
        have:=(List.getElem?_eq_some_iff.1 ha').1
        omega
      unfold World.cells? at h1
      rw [if_pos (Nat.zero_le _)] at h1
      have h3:=mapM_some_get h1 j j (by simp [hj])
      have h4:j < cs'.length:=by
        have:=mapM_some_length h1
        simp at this; omega
      rw [hadd] at h3
      have h5:cs'[j]?=some cs'[j]:=by simp [h4]
      rw [h5] at h3
      simp only [h3,Option.getD_some]
      exact h2.2 j y _ hy h5)
  rw [hlen2] at this
  exact this
def OpensF (enc:TypeId × Value→H) (P:Program) (W:World) (fs:List Field) (off:Nat) {α:Type} (g:α→List AV) (good:α→Prop):Prop :=
  ∀ (n tot:Nat) (cs:List Value) (ys:List (DataW H × List MemPlace)),ys.length=fs.length→(∀ (i:Nat) (f:Field),fs[i]?=some f→DataW.trod enc P W 0 (fun _=>true) true n f.type ((cs.drop f.offset).take (P.cellsOf f.type))=ys[i]?) →
    (∀ k ∈ DataW.weightsEach P (fs.map fun f:Field=>f.type) (ys.map (·.1)),k ≤ reachBytes)→cs.length=tot→tot=off + (fs.map fun f:Field=>P.cellsOf f.type).sum→∃ a:α,good a∧RelL (E0 (oldB W)) W (g a) (cs.drop off)
theorem opensF_nil {off:Nat}:OpensF enc P W [] off (fun _:Unit=>[]) (fun _=>True):=fun n tot cs ys _ _ _ h1 h2=>by
  refine ⟨(),trivial,?_⟩
  rw [List.drop_eq_nil_of_le (by simp at h2; omega)]
  exact ⟨rfl,fun i a b h=>by simp at h⟩
theorem opensF_cons {fd:Field} {fs:List Field} {off off':Nat} {α β:Type} {f:α→AV} {g:β→List AV} {good:α→Prop} {good':β→Prop} (ho:fd.offset=off) (ho':off + P.cellsOf fd.type=off')
    (h:Opens enc P W fd.type f good) (h':OpensF enc P W fs off' g good'):OpensF enc P W (fd :: fs) off (fun a:α × β=>(f a.1).cells ++ g a.2) (fun a=>good a.1∧good' a.2):=fun n tot cs ys hl hy hw h1 h2=>by
  obtain ⟨y,ys,rfl⟩:∃ y ys',ys=y :: ys':=by
    cases ys with
    | nil=>simp at hl
    | cons y ys=>exact ⟨y,ys,rfl⟩
  have hy0:=hy 0 fd rfl
  simp only [List.getElem?_cons_zero] at hy0
  rw [ho] at hy0
  simp only [List.map_cons,DataW.weightsEach] at hw
  obtain ⟨a,g1,g2⟩:=h n _ y hy0 (fun k hk=>hw k (List.mem_append_left _ hk))
  simp only [List.map_cons,List.sum_cons] at h2
  obtain ⟨b,g3,g4⟩:=h' n tot cs ys (by simpa using hl) (fun i f hf=>by
    have:=hy (i + 1) f (by simpa using hf)
    simpa using this) (fun k hk=>hw k (List.mem_append_right _ hk)) h1 (by omega)
  refine ⟨(a,b),⟨g1,g3⟩,?_⟩
  have e:cs.drop off=(cs.drop off).take (P.cellsOf fd.type) ++ cs.drop off':=by
    rw [← ho',← List.drop_drop,List.take_append_drop]
  rw [e]
  exact RelL.app g2 g4
theorem opens_struct {t:TypeId} {fs:Array Field} {α:Type} {g:α→List AV} {good:α→Prop} (ht:P.underlying t=some (.struct fs)) (hsum:P.cellsOf t=(fs.toList.map fun f:Field=>P.cellsOf f.type).sum)
    (h:OpensF enc P W fs.toList 0 g good):Opens enc P W t (fun a=>.agg (g a)) good:=fun n cs x hx hw=>by
  obtain ⟨ys,n',rfl,rfl,hl,hs,hy⟩:=DataW.trod_struct ht hx
  obtain ⟨a,g1,g2⟩:=h n' _ cs ys (by rw [hs]; simp) (fun i f hf=>hy i f (by simpa using hf)) (fun k hk=>hw k (by
    simp only [DataW.weights,ht]; exact hk)) hl (by rw [Nat.zero_add,hsum])
  exact ⟨a,g1,by rw [List.drop_zero] at g2; exact g2⟩
theorem Opens.map {t:TypeId} {α β:Type} {f:α→AV} {good:α→Prop} {f':β→AV} {good':β→Prop} (h:Opens enc P W t f good) (φ:α→β) (hg:∀ a,good a→good' (φ a)) (hf:∀ a,good a→(f' (φ a)).cells=(f a).cells):Opens enc P W t f' good':=fun n cs x hx hw=>by
  obtain ⟨a,h1,h2⟩:=h n cs x hx hw
  exact ⟨φ a,hg a h1,by rw [hf a h1]; exact h2⟩
theorem Opens.at {t u:TypeId} {α:Type} {f:α→AV} {good:α→Prop} (e:t=u) (h:Opens enc P W u f good):Opens enc P W t f good:=e ▸ h
theorem Opens.argA {t:TypeId} {α:Type} {f:α→AV} {good:α→Prop} (h:Opens enc P W t f good) {r:Reach} {base:Nat} {v:Value} {d:DataW H} {ps:List MemPlace} (ht:tagg P t=true) (hf:∀ a,∃ cs,f a=.agg cs)
    (hval:Value.okWide P W r base t v) (hd:DataW.Trod enc P W 0 (fun _=>true) true t v d ps) (hw:∀ k ∈ d.weights P t,k ≤ reachBytes):∃ a,good a∧Rel (E0 (oldB W)) W (f a) v:=by
  obtain ⟨n,hn⟩:=hd
  obtain ⟨a,h1,h2⟩:=h n _ _ hn hw
  refine ⟨a,h1,?_⟩
  obtain ⟨cs,hcs,_⟩:∃ cs,v=.agg cs∧True:=by
    unfold Value.okWide at hval
    unfold tagg at ht
    split at hval
    · obtain ⟨cs,h,_⟩:=hval; exact ⟨cs,h,trivial⟩
    · obtain ⟨cs,h,_⟩:=hval; exact ⟨cs,h,trivial⟩
    · rename_i k1 k2
      revert ht
      cases hu:P.underlying t with
      | none=>simp
      | some u =>
        cases u with
        | struct fs=>exact absurd hu (k1 fs)
        | array m e=>exact absurd hu (k2 m e)
        | _=>simp
  subst hcs
  obtain ⟨xs,hx⟩:=hf a
  rw [hx] at h2 ⊢
  exact .agg xs cs.toList h2.1 h2.2
theorem Opens.arg1 {t:TypeId} {α:Type} {f:α→AV} {good:α→Prop} (h:Opens enc P W t f good) {v:Value} {d:DataW H} {ps:List MemPlace} (hf:∀ a,(f a).cells=[f a]) (hv:v.cells=#[v])
    (hd:DataW.Trod enc P W 0 (fun _=>true) true t v d ps) (hw:∀ k ∈ d.weights P t,k ≤ reachBytes):∃ a,good a∧Rel (E0 (oldB W)) W (f a) v:=by
  obtain ⟨n,hn⟩:=hd
  obtain ⟨a,h1,h2⟩:=h n _ _ hn hw
  rw [hf,hv] at h2
  exact ⟨a,h1,h2.2 0 _ _ rfl rfl⟩
theorem cells_one {t:TypeId} {r:Reach} {base:Nat} {v:Value} (ht:tagg P t=false) (hval:Value.okWide P W r base t v):v.cells=#[v]:=by
  cases v <;> try rfl
  rename_i cs
  exfalso
  unfold Value.okWide at hval
  unfold tagg at ht
  cases hu:P.underlying t with
  | none=>simp only [hu,Cell.okWide,Cell.ok] at hval
  | some u =>
    rw [hu] at ht
    cases u <;> simp only [hu,Cell.okWide,Cell.ok] at hval <;> simp at ht
theorem trodAll_stays (hl:laidOutB P=true) {W':World} (hb:Below W.heap.size W W') {sp:Nat→Bool}:∀ {ts:List TypeId} {vs:List Value} {ds:List (DataW H)} {ps:List MemPlace},(∀ t ∈ ts,P.readableRec t=true∧t < P.types.size) →
    DataW.TrodAll enc P W 0 (fun _=>true) true ts vs ds ps→(∀ p ∈ ps,p.block < W.heap.size)→(∀ p ∈ ps,sp p.block=true)→DataW.TrodAll enc P W' 0 sp true ts vs ds ps
  | [],[],[],ps,_,h,_,_=>h
  | t :: ts,v :: vs,d :: ds,ps,hr,⟨p,q,h1,h2,e⟩,hlt,hsp=>by
    subst e
    exact ⟨p,q,WideElems.Trod_stays hl (hr t (List.mem_cons_self ..)).1 (hr t (List.mem_cons_self ..)).2 h1 (fun x hx=>hb.same (hlt x (List.mem_append_left _ hx))) (fun x hx=>hsp x (List.mem_append_left _ hx)),
      trodAll_stays hl hb (fun t ht=>hr t (List.mem_cons_of_mem _ ht)) h2 (fun x hx=>hlt x (List.mem_append_right _ hx)) (fun x hx=>hsp x (List.mem_append_right _ hx)),rfl⟩
  | [],_ :: _,_,_,_,h,_,_=>h.elim
  | [],[],_ :: _,_,_,h,_,_=>h.elim
  | _ :: _,[],_,_,_,h,_,_=>h.elim
  | _ :: _,_ :: _,[],_,_,h,_,_=>h.elim
theorem weightsEach_at:∀ {ts:List TypeId} {ds:List (DataW H)} {i:Nat} {t:TypeId} {d:DataW H},ts[i]?=some t→ds[i]?=some d→∀ k ∈ d.weights P t,k ∈ DataW.weightsEach P ts ds
  | t :: ts,d :: ds,0,_,_,h1,h2,k,hk=>by
    simp at h1 h2; subst h1 h2
    unfold DataW.weightsEach
    exact List.mem_append_left _ hk
  | t :: ts,d :: ds,i + 1,_,_,h1,h2,k,hk=>by
    unfold DataW.weightsEach
    exact List.mem_append_right _ (weightsEach_at (ts:=ts) (ds:=ds) (by simpa using h1) (by simpa using h2) k hk)
  | [],_,i,_,_,h1,_,_,_=>by simp at h1
  | _ :: _,[],i,_,_,_,h2,_,_=>by simp at h2
end
end Go.Abs
