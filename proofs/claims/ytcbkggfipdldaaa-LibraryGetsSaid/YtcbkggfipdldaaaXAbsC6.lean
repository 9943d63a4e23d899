/- Rules for simp, in bundles. -/
import Derived.Test.YtcbkggfipdldaaaXAbsC5
set_option linter.unusedVariables false
namespace Go.Abs

theorem some_get_zero {α : Type} {a : α} {l : List α} : (a :: l)[0]? = some a := rfl

/-- temporaries -/
theorem SA : (∀ (T : Tm) (n : Nat), ov T (.t n) = T n) ∧ (∀ (T : Tm) (v : AV), ov T (.c v) = v) ∧ (∀ (T : Tm) (d t : Nat) (v : AV), upd T d v t = if t = d then v else T t) ∧ (∀ (T : Tm) (d : Nat) (v : AV), updo T (some d) v = upd T d v) ∧
    (∀ (T : Tm) (v : AV), updo T none v = T) ∧ (∀ (x : AV) (l : List AV), T0 (x :: l) 0 = x) ∧ (∀ (x : AV) (l : List AV) (n : Nat), T0 (x :: l) (n + 1) = T0 l n) ∧ (∀ n : Nat, T0 [] n = .undef) ∧
    (∀ (d t : Nat) (v : AV) (l : List (Nat × AV)), tl ((d, v) :: l) t = if t = d then v else tl l t) ∧ (∀ t : Nat, tl [] t = .undef) ∧
    (∀ (T : Tm) (t : Nat) (ts : List Nat) (x : AV) (xs : List AV), updl T (t :: ts) (x :: xs) = updl (upd T t x) ts xs) ∧ (∀ (T : Tm) (xs : List AV), updl T [] xs = T) :=
  ⟨fun _ _ => rfl, fun _ _ => rfl, fun _ _ _ _ => rfl, fun _ _ _ => rfl, fun _ _ => rfl, fun _ _ => rfl, fun _ _ _ => rfl, fun _ => rfl, fun _ _ _ _ => rfl, fun _ => rfl, fun _ _ _ _ _ => rfl, fun _ xs => by cases xs <;> rfl⟩

theorem hupd_at {H : Hp} {b x : Nat} {cs : List AV} : hupd H b cs x = if x = b then some cs else H x := rfl
theorem hdel_at {H : Hp} {b x : Nat} : hdel H b x = if x = b then none else H x := rfl
theorem noBoxes_at {x : Nat} : noBoxes x = none := rfl

/-- values -/
theorem rd1_ptr {H : Hp} {b n off : Nat} {cs : List AV} (h : H b = some cs) (hn : cs.length = n) : rd1 H (.ptr b n off) = cs[off]? := by
  simp only [rd1, h, hn, if_true]
theorem rd_ptr {H : Hp} {b n off k : Nat} {cs : List AV} (h : H b = some cs) (hn : cs.length = n) (hk : off + k ≤ n) : rd H k (.ptr b n off) = some ((cs.drop off).take k) := by
  simp only [rd, h, hn, true_and, hk, if_true]

theorem SV : (∀ (T : Tm) (H : Hp) (x : Opd), ival T H (.mov x) = some (ov T x)) ∧
    (∀ (T : Tm) (H : Hp) (c a b : Opd), ival T H (.pick c a b) = match ov T c with | .bool t => some (if t = true then ov T a else ov T b) | _ => none) ∧
    (∀ (T : Tm) (H : Hp) (a : Opd), ival T H (.ld1 a) = rd1 H (ov T a)) ∧ (∀ (T : Tm) (H : Hp) (k : Nat) (a : Opd), ival T H (.ldn k a) = (rd H k (ov T a)).map .agg) ∧
    (∀ (T : Tm) (H : Hp) (op : BinOp) (tb tf : Bool) (x y : Opd), ival T H (.bin op tb tf x y) = abin2 op tb tf (ov T x) (ov T y)) ∧
    (∀ (T : Tm) (H : Hp) (op : UnOp) (x : Opd), ival T H (.un op x) = aun op (ov T x)) ∧
    (∀ (T : Tm) (H : Hp) (f : FuncId) (caps : List Opd), ival T H (.mkfn f caps) = some (.func f (caps.map (ov T)))) ∧
    (∀ (T : Tm) (H : Hp) (k : Nat) (p : Opd), ival T H (.fa k p) = apadd k (ov T p)) ∧
    (∀ (T : Tm) (H : Hp) (sz : Nat) (x i : Opd), ival T H (.ixaS sz x i) = aixS sz (ov T x) (ov T i)) ∧
    (∀ (T : Tm) (H : Hp) (x : Opd) (i : Nat), ival T H (.ext x i) = aextract (ov T x) i) ∧
    (∀ (T : Tm) (H : Hp) (x : Opd), ival T H (.lenS x) = alenS (ov T x)) ∧
    (∀ (T : Tm) (H : Hp) (z : List AV) (parts : List (Nat × Nat × Opd)), ival T H (.bld z parts) = (afill2 z (parts.map fun p => (p.1, p.2.1, ov T p.2.2))).map .agg) ∧
    (∀ (T : Tm) (H : Hp) (x : Opd) (l : List Opd), ival T H (.mx x l) = afold amax2 (ov T x) (l.map (ov T))) ∧
    (∀ (T : Tm) (H : Hp) (x : Opd) (l : List Opd), ival T H (.mn x l) = afold amin2 (ov T x) (l.map (ov T))) ∧
    (∀ (T : Tm) (H : Hp) (k : IntKind) (x : Opd), ival T H (.conv k x) = aint (ov T x) fun n => some (.int k (k.wrap n))) ∧
    (∀ (T : Tm) (H : Hp) (sz : Nat) (x : Opd) (lo hi mx : Option Opd), ival T H (.sls sz x lo hi mx) = asls sz (ov T x) (lo.map (ov T)) (hi.map (ov T)) (mx.map (ov T))) ∧
    (∀ (T : Tm) (H : Hp) (off : Nat) (x : Opd), ival T H (.part1 off x) = acells (ov T x) fun cs => cs[off]?) ∧
    (∀ (T : Tm) (H : Hp) (op : BinOp) (ks : List TK) (x y : Opd), ival T H (.binS op ks x y) = acells (ov T x) fun xs => acells (ov T y) fun ys => acmpS op ks xs ys) :=
  ⟨fun _ _ _ => rfl, fun _ _ _ _ _ => rfl, fun _ _ _ => rfl, fun _ _ _ _ => rfl, fun _ _ _ _ _ _ _ => rfl, fun _ _ _ _ => rfl, fun _ _ _ _ => rfl, fun _ _ _ _ => rfl, fun _ _ _ _ _ => rfl, fun _ _ _ _ => rfl, fun _ _ _ => rfl,
   fun _ _ _ _ => rfl, fun _ _ _ _ => rfl, fun _ _ _ _ => rfl, fun _ _ _ _ => rfl, fun _ _ _ _ _ _ _ => rfl, fun _ _ _ _ => rfl, fun _ _ _ _ _ _ => rfl⟩

theorem pick_bool {b : Bool} {x y : AV} : (match (AV.bool b : AV) with | .bool t => some (if t = true then x else y) | _ => none) = some (if b = true then x else y) := rfl

/-- integers -/
theorem SN : (∀ (k : IntKind) (a b : Int) (tb tf : Bool), abin2 .lss tb tf (.int k a) (.int k b) = some (.bool (decide (a < b)))) ∧ (∀ (k : IntKind) (a b : Int) (tb tf : Bool), abin2 .leq tb tf (.int k a) (.int k b) = some (.bool (decide (a ≤ b)))) ∧
    (∀ (k : IntKind) (a b : Int) (tb tf : Bool), abin2 .gtr tb tf (.int k a) (.int k b) = some (.bool (decide (b < a)))) ∧ (∀ (k : IntKind) (a b : Int) (tb tf : Bool), abin2 .geq tb tf (.int k a) (.int k b) = some (.bool (decide (b ≤ a)))) ∧
    (∀ (k : IntKind) (a b : Int) (tb tf : Bool), abin2 .eql tb tf (.int k a) (.int k b) = some (.bool (decide (a = b)))) ∧ (∀ (k : IntKind) (a b : Int) (tb tf : Bool), abin2 .neq tb tf (.int k a) (.int k b) = some (.bool (decide (a ≠ b)))) ∧
    (∀ (k : IntKind) (a b : Int) (tb tf : Bool), abin2 .add tb tf (.int k a) (.int k b) = some (.int k (k.wrap (a + b)))) ∧ (∀ (k : IntKind) (a b : Int) (tb tf : Bool), abin2 .sub tb tf (.int k a) (.int k b) = some (.int k (k.wrap (a - b)))) ∧
    (∀ (k : IntKind) (a b : Int) (tb tf : Bool), abin2 .mul tb tf (.int k a) (.int k b) = some (.int k (k.wrap (a * b)))) ∧
    (∀ (a b : Bool) (tf : Bool), abin2 .eql true tf (.bool a) (.bool b) = some (.bool (a == b))) ∧ (∀ (a b : Bool) (tf : Bool), abin2 .neq true tf (.bool a) (.bool b) = some (.bool (!(a == b)))) ∧
    (∀ tb : Bool, abin2 .eql tb true .nilf .nilf = some (.bool true)) ∧ (∀ tb : Bool, abin2 .neq tb true .nilf .nilf = some (.bool false)) ∧
    (∀ (tb : Bool) (f : FuncId) (c : List AV), abin2 .eql tb true (.func f c) .nilf = some (.bool false)) ∧ (∀ (tb : Bool) (f : FuncId) (c : List AV), abin2 .neq tb true (.func f c) .nilf = some (.bool true)) ∧
    (∀ b : Bool, aun .not (.bool b) = some (.bool (!b))) ∧
    (∀ (k : IntKind) (a b : Int), amax2 (.int k a) (.int k b) = some (.int k (max a b))) ∧ (∀ (k : IntKind) (a b : Int), amin2 (.int k a) (.int k b) = some (.int k (min a b))) ∧
    (∀ (f : AV → AV → Option AV) (x : AV), afold f x [] = some x) ∧ (∀ (f : AV → AV → Option AV) (x y : AV) (l : List AV), afold f x (y :: l) = match f x y with | some z => afold f z l | none => none) ∧
    (∀ (k : Nat) (b n off : Nat), apadd k (.ptr b n off) = some (.ptr b n (off + k))) ∧ (∀ (k : Nat) (cs : List AV) (off : Nat), apadd k (.iptr cs off) = some (.iptr cs (off + k))) ∧
    (∀ (cs : List AV) (off : Nat), rd1 noBoxes (.iptr cs off) = cs[off]?) :=
  ⟨fun _ _ _ _ _ => bin_lss, fun _ _ _ _ _ => bin_leq, fun _ _ _ _ _ => bin_gtr, fun _ _ _ _ _ => bin_geq, fun _ _ _ _ _ => bin_eql, fun _ _ _ _ _ => bin_neq, fun _ _ _ _ _ => bin_add, fun _ _ _ _ _ => bin_sub, fun _ _ _ _ _ => bin_mul,
   fun _ _ _ => rfl, fun _ _ _ => rfl, fun _ => rfl, fun _ => rfl, fun _ _ _ => rfl, fun _ _ _ => rfl, fun _ => rfl,
   fun k a b => by simp only [amax2, Int.max_def]; split <;> split <;> simp <;> omega, fun k a b => by simp only [amin2, Int.min_def]; split <;> split <;> simp <;> omega, fun _ _ => rfl, fun _ _ _ _ => rfl, fun _ _ _ _ => rfl, fun _ _ _ => rfl, fun _ _ => rfl⟩

theorem rd1_iptr {H : Hp} {cs : List AV} {off : Nat} : rd1 H (.iptr cs off) = cs[off]? := rfl
theorem rd_iptr {H : Hp} {cs : List AV} {off k : Nat} : rd H k (.iptr cs off) = if off + k ≤ cs.length then some ((cs.drop off).take k) else none := rfl
theorem ext_tup {l : List AV} {i : Nat} : aextract (.tup l) i = l[i]? := by cases l <;> rfl

/-- lists of fixed length -/
theorem SL : (∀ (a : AV) (l : List AV), (a :: l)[0]? = some a) ∧ (∀ (a : AV) (l : List AV) (n : Nat), (a :: l)[n + 1]? = l[n]?) ∧ (∀ (l : List AV), l.drop 0 = l) ∧ (∀ (a : AV) (l : List AV) (n : Nat), (a :: l).drop (n + 1) = l.drop n) ∧ (∀ n : Nat, ([] : List AV).drop n = []) ∧
    (∀ (l : List AV), l.take 0 = []) ∧ (∀ (a : AV) (l : List AV) (n : Nat), (a :: l).take (n + 1) = a :: l.take n) ∧ (∀ n : Nat, ([] : List AV).take n = []) ∧ (∀ (l : List AV), [] ++ l = l) ∧ (∀ (l : List AV), l ++ [] = l) ∧ (∀ (a : AV) (l m : List AV), (a :: l) ++ m = a :: (l ++ m)) ∧
    (∀ (cs : List AV) (off : Nat) (new : List AV), lput cs off new = cs.take off ++ new ++ cs.drop (off + new.length)) ∧ (([] : List AV).length = 0) ∧ (∀ (a : AV) (l : List AV), (a :: l).length = l.length + 1) ∧
    (∀ (k : IntKind) (n : Int), (AV.int k n).cells = [.int k n]) ∧ (∀ b : Bool, (AV.bool b).cells = [.bool b]) ∧ (∀ s : ByteArray, (AV.str s).cells = [.str s]) ∧ (∀ (k : Nat) (l : List AV), (AV.sl k l).cells = [.sl k l]) ∧ (∀ l : List AV, (AV.agg l).cells = l) ∧ (AV.esl.cells = [.esl]) ∧ (AV.nilf.cells = [.nilf]) ∧
    (∀ (f : FuncId) (c : List AV), (AV.func f c).cells = [.func f c]) ∧ (∀ (b n off : Nat), (AV.ptr b n off).cells = [.ptr b n off]) ∧ (∀ (c : List AV) (off : Nat), (AV.iptr c off).cells = [.iptr c off]) ∧ (∀ (b n sz off len : Nat), (AV.msl b n sz off len).cells = [.msl b n sz off len]) ∧ (∀ b : Nat, (AV.yld b).cells = [.yld b]) ∧ (∀ b : Nat, (AV.mp b).cells = [.mp b]) ∧ (AV.nilp.cells = [.nilp]) :=
  ⟨fun _ _ => rfl, fun _ _ _ => rfl, fun _ => rfl, fun _ _ _ => rfl, fun n => by cases n <;> rfl, fun _ => rfl, fun _ _ _ => rfl, fun n => by cases n <;> rfl, fun _ => rfl, fun l => List.append_nil l, fun _ _ _ => rfl, fun _ _ _ => rfl, rfl, fun _ _ => rfl,
   fun _ _ => rfl, fun _ => rfl, fun _ => rfl, fun _ _ => rfl, fun _ => rfl, rfl, rfl, fun _ _ => rfl, fun _ _ _ => rfl, fun _ _ => rfl, fun _ _ _ _ _ => rfl, fun _ => rfl, fun _ => rfl, rfl⟩

/-! ### single cells -/
theorem flat_one {x : AV} (h : x.cells = [x]) (h1 : x.one = true) : x.flat = true := by simp [AV.flat, h, h1]
def AV.ones (l : List AV) : Bool := l.all AV.one
theorem flat_cells {x : AV} : x.flat = AV.ones x.cells := rfl
theorem SO : (AV.ones [] = true) ∧ (∀ (a : AV) (l : List AV), AV.ones (a :: l) = (a.one && AV.ones l)) ∧ (∀ (k : IntKind) (n : Int), (AV.int k n).one = true) ∧ (∀ b : Bool, (AV.bool b).one = true) ∧ (∀ s : ByteArray, (AV.str s).one = true) ∧ (∀ (k : Nat) (l : List AV), (AV.sl k l).one = true) ∧ (AV.esl.one = true) ∧ (AV.nilf.one = true) ∧
    (∀ (f : FuncId) (c : List AV), (AV.func f c).one = true) ∧ (∀ (b n off : Nat), (AV.ptr b n off).one = true) ∧ (∀ (c : List AV) (off : Nat), (AV.iptr c off).one = true) ∧ (∀ (b n sz off len : Nat), (AV.msl b n sz off len).one = true) ∧ (∀ b : Nat, (AV.yld b).one = true) ∧ (∀ b : Nat, (AV.mp b).one = true) ∧ (AV.nilp.one = true) ∧ (∀ l : List AV, l.all AV.one = AV.ones l) :=
  ⟨rfl, fun _ _ => by simp [AV.ones], fun _ _ => rfl, fun _ => rfl, fun _ => rfl, fun _ _ => rfl, rfl, rfl, fun _ _ => rfl, fun _ _ _ => rfl, fun _ _ => rfl, fun _ _ _ _ _ => rfl, fun _ => rfl, fun _ => rfl, rfl, fun _ => rfl⟩

/-! ### effects -/
variable {P : Program} {T : Tm} {H : Hp} {nx : Nat}

theorem e_alloc {dm : DM} {K : SP} {l : List Op2} {d : Option Nat} {z : AV} {cs : List AV} (hd : dm2 dm T (.alloc z) = true) (hc : z.cells = cs) (ho : AV.ones cs = true) (k : aops2 P dm l (updo T d (.ptr nx cs.length 0)) (hupd H nx cs) (nx + 1) K) : aops2 P dm (⟨d, none, .alloc z⟩ :: l) T H nx K := by
  subst hc
  refine o_eff rfl hd ?_ k
  simp only [ieff, abox]; rw [if_pos (show z.flat = true from ho)]
theorem e_box {dm : DM} {K : SP} {l : List Op2} {d : Option Nat} {x : Opd} {v : AV} {cs : List AV} (hd : dm2 dm T (.box x) = true) (hx : ov T x = v) (hc : v.cells = cs) (ho : AV.ones cs = true) (k : aops2 P dm l (updo T d (.ptr nx cs.length 0)) (hupd H nx cs) (nx + 1) K) : aops2 P dm (⟨d, none, .box x⟩ :: l) T H nx K := by
  subst hc hx
  refine o_eff rfl hd ?_ k
  simp only [ieff, abox]; rw [if_pos (show (ov T x).flat = true from ho)]
theorem e_st {dm : DM} {K : SP} {l : List Op2} {d : Option Nat} {sz : Nat} {p x : Opd} {b n off : Nat} {v : AV} {cs vs : List AV} (hd : dm2 dm T (.st sz p x) = true) (hp : ov T p = .ptr b n off) (hx : ov T x = v) (hb : H b = some cs) (hc : v.cells = vs) (ho : AV.ones vs = true) (hn : cs.length = n) (hl : vs.length = sz) (hf : off + sz ≤ n)
    (k : aops2 P dm l (updo T d (.tup [])) (hupd H b (lput cs off vs)) nx K) : aops2 P dm (⟨d, none, .st sz p x⟩ :: l) T H nx K := by
  subst hc hx
  refine o_eff rfl hd ?_ k
  simp only [ieff, hp, hb]
  rw [if_pos ⟨hn, ho, hl, hf⟩]
theorem e_mks {dm : DM} {K : SP} {l : List Op2} {d : Option Nat} {sz bytes : Nat} {z : List AV} {x y : Opd} {k1 k2 : IntKind} {n m : Int} (hd : dm2 dm T (.mks sz bytes z x y) = true) (hx : ov T x = .int k1 n) (hy : ov T y = .int k2 m) (h0 : 0 ≤ n) (h1 : n ≤ m) (h2 : m ≤ 9223372036854775807) (h3 : bytes * m ≤ 281474976710656)
    (k : aops2 P dm l (updo T d (.msl nx (n.toNat * sz) sz 0 n.toNat)) (hupd H nx (zcells (.agg z) n.toNat)) (nx + 1) K) : aops2 P dm (⟨d, none, .mks sz bytes z x y⟩ :: l) T H nx K := by
  refine o_eff rfl hd ?_ k
  simp only [ieff, hx, hy]
  rw [if_pos ⟨h0, h1, h2, h3⟩]
/-- a slice literal of known parts -/
theorem e_bld {dm : DM} {K : SP} {l : List Op2} {d : Option Nat} {sz len : Nat} {z : List AV} {parts : List (Nat × Nat × Opd)} {pv : List (Nat × Nat × AV)} {cs : List AV} (hd : dm2 dm T (.bldS sz len z parts) = true) (hl : len ≠ 0) (hp : parts.map (fun p => (p.1, p.2.1, ov T p.2.2)) = pv) (hc : afill2 (zcells (.agg z) len) pv = some cs)
    (k : aops2 P dm l (updo T d (.msl nx cs.length sz 0 len)) (hupd H nx cs) (nx + 1) K) : aops2 P dm (⟨d, none, .bldS sz len z parts⟩ :: l) T H nx K := by
  refine o_eff rfl hd ?_ k
  simp only [ieff, hl, if_false, hp, hc]
theorem e_bld0 {dm : DM} {K : SP} {l : List Op2} {d : Option Nat} {sz : Nat} {z : List AV} (hd : dm2 dm T (.bldS sz 0 z []) = true) (k : aops2 P dm l (updo T d .esl) H nx K) : aops2 P dm (⟨d, none, .bldS sz 0 z []⟩ :: l) T H nx K := by
  refine o_eff rfl hd ?_ k
  simp [ieff]
/-- append to nothing -/
theorem e_app0 {dm : DM} {K : SP} {l : List Op2} {d : Option Nat} {sz bytes n : Nat} {s x : Opd} {v : AV} {new : List AV} (hd : dm2 dm T (.app sz bytes s x) = true) (hs : ov T s = .esl) (hx : ov T x = v) (hsrc : asrc sz H v = some (n, new)) (ho : AV.ones new = true) (h1 : n * bytes ≤ 140737488355328) (h2 : n ≤ 9223372036854775807)
    (k : aops2 P dm l (updo T d (.msl nx (n * sz) sz 0 n)) (hupd H nx new) (nx + 1) K) : aops2 P dm (⟨d, none, .app sz bytes s x⟩ :: l) T H nx K := by
  subst hx
  refine o_eff rfl hd ?_ k
  simp only [ieff, aapp, hs, hsrc]
  rw [if_pos (show new.all AV.one = true from ho), if_pos ⟨h1, h2⟩]
/-- append to a row that fills its box -/
theorem e_app {dm : DM} {K : SP} {l : List Op2} {d : Option Nat} {sz bytes n : Nat} {s x : Opd} {v : AV} {new cs : List AV} {b m len : Nat} (hd : dm2 dm T (.app sz bytes s x) = true) (hs : ov T s = .msl b m sz 0 len) (hb : H b = some cs) (hx : ov T x = v) (hsrc : asrc sz H v = some (n, new)) (ho : AV.ones new = true) (hm : cs.length = m) (hl : m = len * sz)
    (h1 : (len + n) * bytes ≤ 140737488355328) (h2 : len + n ≤ 9223372036854775807)
    (k : aops2 P dm l (updo T d (.msl b ((len + n) * sz) sz 0 (len + n))) (hupd H b (cs ++ new)) nx K) : aops2 P dm (⟨d, none, .app sz bytes s x⟩ :: l) T H nx K := by
  subst hx
  refine o_eff rfl hd ?_ k
  simp only [ieff, aapp, hs, hsrc, hb]
  rw [if_pos (show new.all AV.one = true from ho), if_pos ⟨hm, trivial⟩, if_pos ⟨trivial, hl, h1, h2⟩]

theorem asrc_sl {sz : Nat} {l : List AV} : asrc sz H (.sl sz l) = some (l.length, l.flatMap AV.cells) := by simp [asrc]
theorem asrc_esl {sz : Nat} : asrc sz H .esl = some (0, []) := rfl
theorem asrc_msl {sz b n off len : Nat} {cs : List AV} (h : H b = some cs) (hn : cs.length = n) (hf : off + len * sz ≤ n) : asrc sz H (.msl b n sz off len) = some (len, (cs.drop off).take (len * sz)) := by
  simp only [asrc]
  split
  · rename_i h0; subst h0; simp
  · simp only [h, hn, true_and, hf, if_true]

theorem SR : (∀ (H : Hp) (b n off : Nat), rd1 H (.ptr b n off) = match H b with | some cs => if cs.length = n then cs[off]? else none | none => none) ∧
    (∀ (H : Hp) (k b n off : Nat), rd H k (.ptr b n off) = match H b with | some cs => if cs.length = n ∧ off + k ≤ n then some ((cs.drop off).take k) else none | none => none) ∧
    (∀ (H : Hp) (cs : List AV) (off : Nat), rd1 H (.iptr cs off) = cs[off]?) ∧ (∀ (H : Hp) (cs : List AV) (off k : Nat), rd H k (.iptr cs off) = if off + k ≤ cs.length then some ((cs.drop off).take k) else none) ∧
    (∀ (l : List AV) (i : Nat), aextract (.tup l) i = l[i]?) ∧ (∀ (l : List AV) (f : List AV → Option AV), acells (.agg l) f = f l) ∧ (∀ (k : IntKind) (n : Int) (f : Int → Option AV), aint (.int k n) f = f n) ∧
    (∀ (cs : List AV), afill2 cs [] = some cs) ∧
    (∀ (cs : List AV) (off sz : Nat) (x : AV) (r : List (Nat × Nat × AV)), afill2 cs ((off, sz, x) :: r) = if AV.ones x.cells = true ∧ x.cells.length = sz ∧ off + sz ≤ cs.length then afill2 (lput cs off x.cells) r else none) ∧
    (∀ (b n sz off len : Nat), alenS (.msl b n sz off len) = some (.int .i64 len)) ∧ (alenS .esl = some (.int .i64 0)) ∧ (∀ (sz : Nat) (l : List AV), alenS (.sl sz l) = some (.int .i64 l.length)) ∧
    (∀ (z : AV), zcells z 0 = []) ∧ (∀ (z : AV) (n : Nat), zcells z (n + 1) = z.cells ++ zcells z n) :=
  ⟨fun _ _ _ _ => rfl, fun _ _ _ _ _ => rfl, fun _ _ _ => rfl, fun _ _ _ _ => rfl, fun l i => by cases l <;> rfl, fun _ _ => rfl, fun _ _ _ => rfl, fun _ => rfl, fun _ _ _ _ _ => rfl, fun _ _ _ _ _ => rfl, rfl, fun _ _ => rfl, fun _ => rfl, fun z n => by simp [zcells, List.replicate_succ]⟩

end Go.Abs
