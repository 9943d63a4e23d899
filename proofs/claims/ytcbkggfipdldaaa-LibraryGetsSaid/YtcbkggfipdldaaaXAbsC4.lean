/- Steps, one at a time. -/
import Derived.Test.YtcbkggfipdldaaaXAbsC3
set_option linter.unusedVariables false
namespace Go.Abs
open Go.RowKit

variable {P : Program} {T : Tm} {H : Hp} {nx : Nat}

theorem w_skip {K : CP} (h : K .normal T H nx) : awp2 P .skip T H nx K := h
theorem w_exit {K : CP} {i : Nat} (h : K (.exit i) T H nx) : awp2 P (.exit i) T H nx K := h
theorem w_ret {K : CP} (h : K .ret T H nx) : awp2 P .ret T H nx K := h
theorem w_ops0 {K : CP} {l : List Op2} (h : aops2 P .text l T H nx fun T H nx => K .normal T H nx) : awp2 P (.ops 0 l) T H nx K := ⟨T, H, nx, _, Gh.refl _ _ _, h⟩
theorem w_ops1 {K : CP} {l : List Op2} (h : aops2 P .draw l T H nx fun T H nx => K .normal T H nx) : awp2 P (.ops 1 l) T H nx K := ⟨T, H, nx, _, Gh.refl _ _ _, h⟩
theorem w_ops2 {K : CP} {l : List Op2} (h : aops2 P (.fresh nx) l T H nx fun T H nx => K .normal T H nx) : awp2 P (.ops 2 l) T H nx K := ⟨T, H, nx, _, Gh.refl _ _ _, h⟩
theorem w_seq {K : CP} {x y : C2} (h : awp2 P x T H nx fun e T H nx => athen e (awp2 P y T H nx K) (K e T H nx)) : awp2 P (.seq x y) T H nx K := h
theorem w_block {K : CP} {i : Nat} {b : C2} (h : awp2 P b T H nx fun e T H nx => K (ablock i e) T H nx) : awp2 P (.block i b) T H nx K := h
theorem w_cond {K : CP} {c : Opd} {x y : C2} {b : Bool} (hc : ov T c = .bool b) (h1 : b = true → awp2 P x T H nx K) (h2 : b = false → awp2 P y T H nx K) : awp2 P (.cond c x y) T H nx K := by
  simp only [awp2, hc]; exact ⟨h1, h2⟩
theorem w_condT {K : CP} {c : Opd} {x y : C2} (hc : ov T c = .bool true) (h1 : awp2 P x T H nx K) : awp2 P (.cond c x y) T H nx K :=
  w_cond hc (fun _ => h1) (fun h => by cases h)
theorem w_condF {K : CP} {c : Opd} {x y : C2} (hc : ov T c = .bool false) (h2 : awp2 P y T H nx K) : awp2 P (.cond c x y) T H nx K :=
  w_cond hc (fun h => by cases h) (fun _ => h2)
theorem w_condP {K : CP} {c : Opd} {x y : C2} {p : Prop} [Decidable p] (hc : ov T c = .bool (decide p)) (h1 : p → awp2 P x T H nx K) (h2 : ¬ p → awp2 P y T H nx K) : awp2 P (.cond c x y) T H nx K :=
  w_cond hc (fun h => h1 (of_decide_eq_true h)) (fun h => h2 (of_decide_eq_false h))
theorem w_loop {K : CP} {b : C2} (h : aloop (awp2 P b) T H nx K) : awp2 P (.loop b) T H nx K := h

theorem a_n {A B : Prop} (h : A) : athen .normal A B := h
theorem a_x {A B : Prop} {i : Nat} (h : B) : athen (.exit i) A B := h
theorem a_r {A B : Prop} (h : B) : athen .ret A B := h

theorem o_nil {dm : DM} {K : SP} (h : K T H nx) : aops2 P dm [] T H nx K := h
theorem o_val {dm : DM} {K : SP} {l : List Op2} {d : Option Nat} {i : Ins} {r : AV} (hi : ic i = .val) (hd : dm2 dm T i = true) (h : ival T H i = some r) (k : aops2 P dm l (updo T d r) H nx K) : aops2 P dm (⟨d, none, i⟩ :: l) T H nx K := by
  show ains P dm i T H nx fun r H nx => aops2 P dm l (updo T d r) H nx K
  unfold ains; rw [hi]; exact ⟨hd, by rw [h]; exact k⟩
theorem o_eff {dm : DM} {K : SP} {l : List Op2} {d : Option Nat} {i : Ins} {r : AV} {H' : Hp} {nx' : Nat} (hi : ic i = .eff) (hd : dm2 dm T i = true) (h : ieff T H nx i = some (r, H', nx')) (k : aops2 P dm l (updo T d r) H' nx' K) : aops2 P dm (⟨d, none, i⟩ :: l) T H nx K := by
  show ains P dm i T H nx fun r H nx => aops2 P dm l (updo T d r) H nx K
  unfold ains; rw [hi]; exact ⟨hd, by rw [h]; exact k⟩
theorem o_call {K : SP} {l : List Op2} {d : Option Nat} {f : Opd} {args : List Opd} {g : FuncId} {caps : List AV} (hf : ov T f = .func g caps) (k : Fn P g (args.map (ov T) ++ caps) H nx fun r H nx => aops2 P .text l (updo T d r) H nx K) :
    aops2 P .text (⟨d, none, .call f args⟩ :: l) T H nx K := by
  left
  show obind (isFn (ov T f)) _
  rw [hf]; exact k
theorem o_pcall {dm : DM} (hdm : dm.isText = false) {K : SP} {l : List Op2} {d : Option Nat} {f : Opd} {args : List Opd} {g : FuncId} {caps : List AV} (hf : ov T f = .func g caps) (k : PCall P g (args.map (ov T) ++ caps) H fun r => aops2 P dm l (updo T d r) H nx K) :
    aops2 P dm (⟨d, none, .call f args⟩ :: l) T H nx K := by
  left
  show obind (isFn (ov T f)) _
  rw [hf]
  show (match dm.isText with | false => _ | true => _)
  rw [hdm]
  exact k
theorem o_yield {K : SP} {l : List Op2} {d : Option Nat} {f : Opd} {args : List Opd} {b : Nat} {xs : List AV} (hf : ov T f = .yld b) (ha : args.map (ov T) = xs) (k : Yl P b xs H nx fun r H nx => aops2 P .text l (updo T d r) H nx K) :
    aops2 P .text (⟨d, none, .call f args⟩ :: l) T H nx K := by
  right
  exact ⟨rfl, b, hf, by rw [ha]; exact k⟩
/-- special operations -/
theorem o_sp {K : SP} {l : List Op2} {d : Option Nat} {i : Ins} (hi : ic i = .sp) (k : isp i T H nx fun r H nx => aops2 P .text l (updo T d r) H nx K) : aops2 P .text (⟨d, none, i⟩ :: l) T H nx K := by
  show ains P .text i T H nx fun r H nx => aops2 P .text l (updo T d r) H nx K
  unfold ains; rw [hi]; exact ⟨rfl, k⟩
theorem o_mkm {K : SP} {l : List Op2} {d : Option Nat} (k : aops2 P .text l (updo T d (.mp nx)) (hupd H nx [.omap [] []]) (nx + 1) K) : aops2 P .text (⟨d, none, .mkm none⟩ :: l) T H nx K := o_sp rfl ⟨.inl rfl, k⟩
theorem o_mkmh {K : SP} {l : List Op2} {d : Option Nat} {x : Opd} {kk : IntKind} {n : Int} (hx : ov T x = .int kk n) (k : aops2 P .text l (updo T d (.mp nx)) (hupd H nx [.omap [] []]) (nx + 1) K) : aops2 P .text (⟨d, none, .mkm (some x)⟩ :: l) T H nx K := o_sp rfl ⟨.inr ⟨x, kk, n, rfl, hx⟩, k⟩
theorem o_mput {K : SP} {l : List Op2} {d : Option Nat} {kk : MK} {m key x : Opd} {b : Nat} {ks vs : List AV} {kv xv : AV} {r : Option Nat} (hm : ov T m = .mp b) (hb : H b = some [.omap ks vs]) (hk : ov T key = kv) (hx : ov T x = xv) (hfit : kfit kk kv = true) (hr : mfind kk kv ks = some r)
    (k : aops2 P .text l (updo T d (.tup [])) (hupd H b [.omap (msetK kv r ks) (msetV xv r vs)]) nx K) : aops2 P .text (⟨d, none, .mput kk m key x⟩ :: l) T H nx K := by
  subst hk hx
  exact o_sp rfl ⟨b, ks, vs, r, hm, hb, hfit, hr, k⟩
theorem o_mget {K : SP} {l : List Op2} {d : Option Nat} {kk : MK} {z : AV} {ok : Bool} {m key : Opd} {b : Nat} {ks vs : List AV} {kv : AV} {r : Option Nat} (hm : ov T m = .mp b) (hb : H b = some [.omap ks vs]) (hk : ov T key = kv) (hfit : kfit kk kv = true) (hr : mfind kk kv ks = some r)
    (k : aops2 P .text l (updo T d (mget z ok r vs)) H nx K) : aops2 P .text (⟨d, none, .mget kk z ok m key⟩ :: l) T H nx K := by
  subst hk
  exact o_sp rfl ⟨b, ks, vs, r, hm, hb, hfit, hr, k⟩
theorem o_mlen {K : SP} {l : List Op2} {d : Option Nat} {m : Opd} {b : Nat} {ks vs : List AV} (hm : ov T m = .mp b) (hb : H b = some [.omap ks vs]) (k : aops2 P .text l (updo T d (.int .i64 ks.length)) H nx K) : aops2 P .text (⟨d, none, .mlen m⟩ :: l) T H nx K := o_sp rfl ⟨b, ks, vs, hm, hb, k⟩
theorem o_mrng {K : SP} {l : List Op2} {d : Option Nat} {m : Opd} {b : Nat} {ks vs : List AV} (hm : ov T m = .mp b) (hb : H b = some [.omap ks vs]) (k : aops2 P .text l (updo T d (.itr nx)) (hupd H nx [.oiter b ks.length []]) (nx + 1) K) : aops2 P .text (⟨d, none, .mrng m⟩ :: l) T H nx K := o_sp rfl ⟨b, ks, vs, hm, hb, k⟩
theorem o_mnxt {K : SP} {l : List Op2} {d : Option Nat} {it : Opd} {b m n0 : Nat} {seen : List Nat} {ks vs : List AV} (hi : ov T it = .itr b) (hb : H b = some [.oiter m n0 seen]) (hm : H m = some [.omap ks vs])
    (h1 : ∀ i, i < ks.length → i ∉ seen → aops2 P .text l (updo T d (.tup [.bool true, ks.getD i .undef, vs.getD i .undef])) (hupd H b [.oiter m n0 (seen ++ [i])]) nx K)
    (h2 : (∀ i, i < n0 → i < ks.length → i ∈ seen) → aops2 P .text l (updo T d (.tup [.bool false])) H nx K) : aops2 P .text (⟨d, none, .mnxt it⟩ :: l) T H nx K := o_sp rfl ⟨b, m, n0, seen, ks, vs, hi, hb, hm, h1, h2⟩
theorem o_cpy {K : SP} {l : List Op2} {d : Option Nat} {sz n : Nat} {x y : Opd} {H' : Hp} (h : acopy sz (ov T x) (ov T y) H = some (n, H')) (k : aops2 P .text l (updo T d (.int .i64 n)) H' nx K) : aops2 P .text (⟨d, none, .cpy sz x y⟩ :: l) T H nx K := o_sp rfl ⟨n, H', h, k⟩
theorem o_clr {K : SP} {l : List Op2} {d : Option Nat} {sz : Nat} {z : AV} {x : Opd} {H' : Hp} (h : aclear sz z (ov T x) H = some H') (k : aops2 P .text l (updo T d (.tup [])) H' nx K) : aops2 P .text (⟨d, none, .clr sz z x⟩ :: l) T H nx K := o_sp rfl ⟨H', h, k⟩
theorem o_snil {K : SP} {l : List Op2} {d : Option Nat} {neg : Bool} {x : Opd} {k : Nat} (hx : alenN (ov T x) = some k) (h1 : 0 < k → aops2 P .text l (updo T d (.bool neg)) H nx K) (h2 : k = 0 → aops2 P .text l (updo T d (.bool true)) H nx K) (h3 : k = 0 → aops2 P .text l (updo T d (.bool false)) H nx K) : aops2 P .text (⟨d, none, .snil neg x⟩ :: l) T H nx K := o_sp rfl ⟨k, hx, h1, fun h => ⟨h2 h, h3 h⟩⟩
theorem w_rangeF {K : CP} {g : Opd} {ps : List Nat} {a b : C2} {f : FuncId} {caps : List AV} (hg : ov T g = .func f caps)
    (h : ∀ (c0 : AV) (cj : AEx → AV), (∀ (args : List AV) (H' : Hp) (nx' : Nat) (K' : AV → Hp → Nat → Prop), H' nx = some [c0] → args.length = ps.length →
        awp2 P a (updl T ps args) H' nx' (fun e T2 H2 nx2 => athen e (H2 nx = some [c0] ∧ awp2 P b T2 (hdel H2 nx) nx2 fun e T3 H3 nx3 => athen e (K' (.bool true) (hupd H3 nx [c0]) nx3) (K' (.bool false) (hupd H3 nx [cj e]) nx3)) False) →
        Yl P nx args H' nx' K') →
      Fn P f (.yld nx :: caps) (hupd H nx [c0]) (nx + 1) fun _ H' nx' => (H' nx = some [c0] ∧ K .normal T (hdel H' nx) nx') ∨ ∃ e, e ≠ .normal ∧ H' nx = some [cj e] ∧ K e T (hdel H' nx) nx') : awp2 P (.rangeF g ps a b) T H nx K := ⟨f, caps, hg, h⟩
theorem o_gT {dm : DM} {K : SP} {l : List Op2} {d : Option Nat} {i : Ins} {t : Nat} {w : Bool} (h : T t = .bool w) (k : aops2 P dm (⟨d, none, i⟩ :: l) T H nx K) : aops2 P dm (⟨d, some (t, w), i⟩ :: l) T H nx K := by
  show gbind (g2 T (some (t, w))) _ _
  have : g2 T (some (t, w)) = some true := by simp [g2, h]
  rw [this]; exact k
theorem o_gF {dm : DM} {K : SP} {l : List Op2} {d : Option Nat} {i : Ins} {t : Nat} {w : Bool} (h : T t = .bool (!w) ∨ T t = .tup []) (k : aops2 P dm l (updo T d (.tup [])) H nx K) : aops2 P dm (⟨d, some (t, w), i⟩ :: l) T H nx K := by
  show gbind (g2 T (some (t, w))) _ _
  have : g2 T (some (t, w)) = some false := by
    rcases h with h | h
    · cases w <;> simp [g2, h]
    · simp [g2, h]
  rw [this]; exact k
/-- a guard that is not known -/
theorem o_gS {dm : DM} {K : SP} {l : List Op2} {d : Option Nat} {i : Ins} {t : Nat} {w b : Bool} (h : T t = .bool b) (k1 : b = w → aops2 P dm (⟨d, some (t, w), i⟩ :: l) T H nx K) (k2 : b = !w → aops2 P dm (⟨d, some (t, w), i⟩ :: l) T H nx K) : aops2 P dm (⟨d, some (t, w), i⟩ :: l) T H nx K := by
  cases w <;> cases b
  · exact k1 rfl
  · exact k2 rfl
  · exact k2 rfl
  · exact k1 rfl

theorem e_ends {e : AEx} {A : Prop} (he : e.ends = true) (h : A) : bbind e.ends A := ⟨he, h⟩
theorem r_1 {K : AV → Prop} {a : RV} {x : AV} (ha : rv T H a = some x) (h : K x) : res1 T H K [a] := by
  show obind (rv T H a) K
  rw [ha]; exact h
theorem r_2 {K : AV → Prop} {a b : RV} {x y : AV} (ha : rv T H a = some x) (hb : rv T H b = some y) (h : K (.tup [x, y])) : res1 T H K [a, b] := by
  show obind (rv T H a) _
  rw [ha]
  show obind (rv T H b) _
  rw [hb]; exact h
theorem r_3 {K : AV → Prop} {a b c : RV} {x y z : AV} (ha : rv T H a = some x) (hb : rv T H b = some y) (hc : rv T H c = some z) (h : K (.tup [x, y, z])) : res1 T H K [a, b, c] := by
  show obind (rv T H a) _
  rw [ha]
  show obind (rv T H b) _
  rw [hb]
  show obind (rv T H c) _
  rw [hc]; exact h

theorem upd_same {T : Tm} {t : Nat} {v : AV} (h : T t = v) : upd T t v = T := by
  funext x; simp only [upd]; split
  · rename_i e; rw [e, h]
  · rfl
/-- a guard that is a comparison -/
theorem o_gP {dm : DM} {K : SP} {l : List Op2} {d : Option Nat} {i : Ins} {t : Nat} {p : Prop} [Decidable p] (h : T t = .bool (decide p)) (k1 : p → aops2 P dm (⟨d, none, i⟩ :: l) (upd T t (.bool true)) H nx K)
    (k2 : ¬ p → aops2 P dm l (updo (upd T t (.bool false)) d (.tup [])) H nx K) : aops2 P dm (⟨d, some (t, true), i⟩ :: l) T H nx K := by
  by_cases hp : p
  · have := k1 hp
    rw [upd_same (by rw [h]; simp [hp])] at this
    exact o_gT (by rw [h]; simp [hp]) this
  · have := k2 hp
    rw [upd_same (by rw [h]; simp [hp])] at this
    exact o_gF (.inl (by rw [h]; simp [hp])) this
theorem o_gN {dm : DM} {K : SP} {l : List Op2} {d : Option Nat} {i : Ins} {t : Nat} {p : Prop} [Decidable p] (h : T t = .bool (decide p)) (k1 : ¬ p → aops2 P dm (⟨d, none, i⟩ :: l) (upd T t (.bool false)) H nx K)
    (k2 : p → aops2 P dm l (updo (upd T t (.bool true)) d (.tup [])) H nx K) : aops2 P dm (⟨d, some (t, false), i⟩ :: l) T H nx K := by
  by_cases hp : p
  · have := k2 hp
    rw [upd_same (by rw [h]; simp [hp])] at this
    exact o_gF (.inl (by rw [h]; simp [hp])) this
  · have := k1 hp
    rw [upd_same (by rw [h]; simp [hp])] at this
    exact o_gT (by rw [h]; simp [hp]) this

/-- a guard that is not known -/
theorem o_gB {dm : DM} {K : SP} {l : List Op2} {d : Option Nat} {i : Ins} {t : Nat} {w b : Bool} (h : T t = .bool b) (k1 : b = w → aops2 P dm (⟨d, none, i⟩ :: l) (upd T t (.bool w)) H nx K)
    (k2 : b = !w → aops2 P dm l (updo (upd T t (.bool (!w))) d (.tup [])) H nx K) : aops2 P dm (⟨d, some (t, w), i⟩ :: l) T H nx K := by
  by_cases hb : b = w
  · subst hb
    have := k1 rfl
    rw [upd_same h] at this
    exact o_gT h this
  · have hb' : b = !w := by cases b <;> cases w <;> simp_all
    subst hb'
    have := k2 rfl
    rw [upd_same h] at this
    exact o_gF (.inl h) this

/-! ### conditions of instructions -/
theorem getD_map_lt {α : Type} {f : α → AV} {l : List α} {k : Nat} {u : AV} (d : α) (h : k < l.length) : (l.map f).getD k u = f (l.getD k d) := by
  simp [List.getD, h]
theorem s_ite {c : Prop} [Decidable c] {x : Option AV} {r : AV} (hc : c) (h : x = some r) : (if c then x else none) = some r := by rw [if_pos hc]; exact h

theorem cells_int {k : IntKind} {n : Int} : AV.cells (.int k n) = [.int k n] := rfl
theorem cells_bool {n : Bool} : AV.cells (.bool n) = [.bool n] := rfl
theorem cells_str {n : ByteArray} : AV.cells (.str n) = [.str n] := rfl
theorem cells_sl {k : Nat} {n : List AV} : AV.cells (.sl k n) = [.sl k n] := rfl
theorem cells_agg {n : List AV} : AV.cells (.agg n) = n := rfl

end Go.Abs
