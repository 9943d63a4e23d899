/- Loops with boxes; maps of plain keys; closing steps. -/
import Derived.Test.YtcbkggfipdldaaaXAbsC6
set_option linter.unusedVariables false
namespace Go.Abs

theorem snap_bool {H : Hp} {a b : Bool} (h : a = b) : Snap H (.bool a) (.bool b) := by subst h; exact .bool _
theorem snap_int {H : Hp} {k : IntKind} {a b : Int} (h : a = b) : Snap H (.int k a) (.int k b) := by subst h; exact .int _ _
theorem snap_tup {H : Hp} {l m : List AV} (h : SnapL H l m) : Snap H (.tup l) (.tup m) := .tup l m h.1 h.2
theorem snap_agg {H : Hp} {l m : List AV} (h : SnapL H l m) : Snap H (.agg l) (.agg m) := .agg l m h.1 h.2
theorem snapL_cons {H : Hp} {x y : AV} {xs ys : List AV} (h : Snap H x y) (hs : SnapL H xs ys) : SnapL H (x :: xs) (y :: ys) := SnapL.cons h hs
theorem Dat.snap {H : Hp} {x : AV} (h : Dat x) : Snap H x x := h H

/-- a loop -/
theorem loopI {P : Program} {b : C2} {T : Tm} {H : Hp} {nx : Nat} {K : CP} {X : Type} (L : X → List (Nat × AV)) (I : X → Hp → Nat → Prop) (μ : X → Nat) (x0 : X) (h0 : I x0 H nx) (hT : agr T (L x0))
    (step : ∀ x H nx, I x H nx → awp2 P b (tl (L x)) H nx fun e T H' nx' => athen e (∃ y, μ y < μ x ∧ I y H' nx' ∧ agr T (L y)) (K e T H' nx')) : aloop (awp2 P b) T H nx K := by
  refine loopG (X := X × Hp × Nat) (fun x => tl (L x.1)) (fun x => x.2.1) (fun x => x.2.2) (fun x => I x.1 x.2.1 x.2.2) (fun x => μ x.1) ⟨(x0, H, nx), h0, _, Gh.weak (agr_tl hT)⟩ (fun x hx => awp2_mono b (step x.1 x.2.1 x.2.2 hx) (fun e T H' nx' h => ?_))
  cases e with
  | normal =>
    obtain ⟨y, h1, h2, h3⟩ := h
    exact ⟨(y, H', nx'), h2, h1, _, Gh.weak (agr_tl h3)⟩
  | exit i => exact h
  | ret => exact h

/-! ### boxes that become data -/
def CellsTo (Hf : Hp) (cs cs' : List AV) : Prop := cs'.length = cs.length ∧ ∀ (i : Nat) (x x' : AV), cs[i]? = some x → cs'[i]? = some x' → x' = x ∨ Snap Hf x x'

theorem CellsTo.refl (Hf : Hp) (cs : List AV) : CellsTo Hf cs cs := ⟨rfl, fun i x x' h1 h2 => .inl (by rw [h1] at h2; cases h2; rfl)⟩
theorem CellsTo.snoc {Hf : Hp} {cs : List AV} {x x' : AV} (h : Snap Hf x x') : CellsTo Hf (cs ++ [x]) (cs ++ [x']) := by
  refine ⟨by simp, fun i y y' h1 h2 => ?_⟩
  by_cases hi : i < cs.length
  · rw [List.getElem?_append_left hi] at h1 h2; rw [h1] at h2; cases h2; exact .inl rfl
  · rw [List.getElem?_append_right (by omega)] at h1 h2
    cases hj : i - cs.length with
    | zero => rw [hj] at h1 h2; simp at h1 h2; subst h1 h2; exact .inr h
    | succ j => rw [hj] at h1; simp at h1

/-- H' is H without the boxes of Hf, whose readers have become data -/
structure Fz (Hf H H' : Hp) : Prop where
  sub : ∀ b cs, Hf b = some cs → H b = some cs
  to : ∀ b cs', H' b = some cs' → ∃ cs, H b = some cs ∧ Hf b = none ∧ CellsTo Hf cs cs'

def agrF (Hf : Hp) (T : Tm) : List (Nat × AV) → Prop
  | [] => True
  | (d, v) :: l => (T d = v ∨ Snap Hf (T d) v) ∧ agrF Hf T l

theorem agrF_tl {Hf : Hp} {T : Tm} : ∀ {l : List (Nat × AV)}, agrF Hf T l → ∀ t, tl l t = .undef ∨ tl l t = T t ∨ Snap Hf (T t) (tl l t)
  | [], _, t => .inl rfl
  | (d, v) :: l, h, t => by
    simp only [tl]
    split
    · rename_i e; subst e
      rcases h.1 with h1 | h1
      · exact .inr (.inl h1.symm)
      · exact .inr (.inr h1)
    · exact agrF_tl h.2 t

theorem Fz.gh {Hf H H' : Hp} {T : Tm} {l : List (Nat × AV)} {nx : Nat} (h : Fz Hf H H') (ha : agrF Hf T l) : Gh T H nx (tl l) H' nx Hf :=
  ⟨h.sub, Nat.le_refl _, fun b cs' hb => by
    obtain ⟨cs, h1, h2, h3, h4⟩ := h.to b cs' hb
    exact .inl ⟨cs, h1, h2, h3, fun i x x' hx hx' => (h4 i x x' hx hx').imp id .inl⟩, fun t => by
    rcases agrF_tl ha t with h1 | h1 | h1
    · exact .inl h1
    · exact .inr (.inl h1)
    · exact .inr (.inr (.inl h1))⟩

/-- one box -/
def only (b : Nat) (cs : List AV) : Hp := fun x => if x = b then some cs else none
theorem only_at {b : Nat} {cs : List AV} : only b cs b = some cs := by simp [only]

/-- boxes become data in front of a region -/
theorem w_ops0F {P : Program} {T : Tm} {H : Hp} {nx : Nat} {K : CP} {l : List Op2} (Hf H' : Hp) (L : List (Nat × AV)) (hf : Fz Hf H H') (ha : agrF Hf T L) (h : aops2 P .text l (tl L) H' nx fun T H nx => K .normal T H nx) : awp2 P (.ops 0 l) T H nx K := ⟨_, H', nx, Hf, hf.gh ha, h⟩
theorem w_ops1F {P : Program} {T : Tm} {H : Hp} {nx : Nat} {K : CP} {l : List Op2} (Hf H' : Hp) (L : List (Nat × AV)) (hf : Fz Hf H H') (ha : agrF Hf T L) (h : aops2 P .draw l (tl L) H' nx fun T H nx => K .normal T H nx) : awp2 P (.ops 1 l) T H nx K := ⟨_, H', nx, Hf, hf.gh ha, h⟩
/-- one box becomes data -/
theorem Fz.one {H : Hp} {b : Nat} {cs : List AV} (hb : H b = some cs) : Fz (only b cs) H (hdel H b) :=
  ⟨fun x c h => by unfold only at h; split at h <;> cases h; subst_vars; exact hb, fun x c h => by
    have := hdel_some h
    exact ⟨c, this.2, by simp [only, this.1], CellsTo.refl _ _⟩⟩
/-- all boxes become data -/
theorem Fz.all {H : Hp} : Fz H H noBoxes := ⟨fun _ _ h => h, fun _ _ h => (by cases h)⟩

theorem agrF_of {T : Tm} {Hf : Hp} : ∀ {l : List (Nat × AV)}, agr T l → agrF Hf T l
  | [], _ => trivial
  | (_, _) :: _, h => ⟨.inl h.1, agrF_of h.2⟩

/-- a loop at whose rounds' ends boxes become data -/
theorem loopF {P : Program} {b : C2} {T : Tm} {H : Hp} {nx : Nat} {K : CP} {X : Type} (L : X → List (Nat × AV)) (I : X → Hp → Nat → Prop) (μ : X → Nat) (x0 : X) (h0 : ∃ Hf H', Fz Hf H H' ∧ I x0 H' nx ∧ agrF Hf T (L x0))
    (step : ∀ x H nx, I x H nx → awp2 P b (tl (L x)) H nx fun e T H' nx' => athen e (∃ y, μ y < μ x ∧ ∃ Hf H'', Fz Hf H' H'' ∧ I y H'' nx' ∧ agrF Hf T (L y)) (K e T H' nx')) : aloop (awp2 P b) T H nx K := by
  obtain ⟨Hf, H0, hf, hI, ha⟩ := h0
  refine loopG (X := X × Hp × Nat) (fun x => tl (L x.1)) (fun x => x.2.1) (fun x => x.2.2) (fun x => I x.1 x.2.1 x.2.2) (fun x => μ x.1) ⟨(x0, H0, nx), hI, _, hf.gh ha⟩ (fun x hx => awp2_mono b (step x.1 x.2.1 x.2.2 hx) (fun e T H' nx' h => ?_))
  cases e with
  | normal =>
    obtain ⟨y, h1, Hf, H'', h2, h3, h4⟩ := h
    exact ⟨(y, H'', nx'), h3, h1, _, h2.gh h4⟩
  | exit i => exact h
  | ret => exact h

theorem Fz.none {H : Hp} : Fz noBoxes H H := ⟨fun _ _ h => (by cases h), fun b cs h => ⟨cs, h, rfl, CellsTo.refl _ _⟩⟩


/-! ### plain keys -/
theorem mfind_map {α : Type} [DecidableEq α] (k : MK) (enc : α → AV) (h : ∀ a b, ksame k (enc a) (enc b) = some (decide (a = b))) (v : α) : ∀ ks : List α, mfind k (enc v) (ks.map enc) = some (if v ∈ ks then some (ks.idxOf v) else none)
  | [] => rfl
  | x :: l => by
    simp only [List.map_cons, mfind, h]
    by_cases e : v = x
    · subst e; simp
    · have e' : x ≠ v := fun h => e h.symm
      simp only [e, decide_false, mfind_map k enc h v l, Option.map_some, List.mem_cons, false_or]
      by_cases hm : v ∈ l
      · simp only [hm, if_true, Option.map_some]
        simp [List.idxOf_cons, beq_eq_false_iff_ne.2 e']
      · simp [hm]

theorem ksame_int (k : IntKind) (a b : Int) : ksame (.one .int) (.int k a) (.int k b) = some (decide (a = b)) := by
  simp only [ksame, same1, if_true]
  congr 1
theorem ksame_str (a b : ByteArray) : ksame (.one .str) (.str a) (.str b) = some (decide (a = b)) := by
  simp only [ksame, same1]
  congr 1
  by_cases h : a = b
  · subst h; simp
  · have : a.toList ≠ b.toList := fun e => h (bytes_inj e)
    simp [h, this]

theorem mfind_int (v : Int) (ks : List Int) : mfind (.one .int) (.int .i64 v) (ks.map (AV.int .i64)) = some (if v ∈ ks then some (ks.idxOf v) else none) := mfind_map _ (AV.int .i64) (ksame_int .i64) v ks

/-! ### rows of rows -/
theorem getD_take {α : Type} {l : List α} {n k : Nat} {d : α} (h : k < n) : (l.take n).getD k d = l.getD k d := by
  simp only [List.getD, List.getElem?_take, if_pos h]
theorem take_succ' {α : Type} [Inhabited α] {l : List α} {k : Nat} (h : k < l.length) : l.take (k + 1) = l.take k ++ [l.getD k default] := by
  rw [List.take_add_one]; simp [List.getD, h]
theorem drop_cons {α : Type} [Inhabited α] {l : List α} {k : Nat} (h : k < l.length) : l.drop k = l.getD k default :: l.drop (k + 1) := by
  rw [List.drop_eq_getElem_cons h]; simp [List.getD, h]

theorem omap_eq {a a' b : List AV} (h : a = a') : some [AV.omap a b] = some [AV.omap a' b] := by rw [h]
theorem hupd_self' {H : Hp} {b : Nat} {cs : List AV} : hupd H b cs b = some cs := if_pos rfl

theorem snap_func {H : Hp} {f : FuncId} {l m : List AV} (h : SnapL H l m) : Snap H (.func f l) (.func f m) := .func f l m h.1 h.2
theorem snap_ptr {H : Hp} {b n off : Nat} {cs cs' : List AV} (hb : H b = some cs) (hn : cs.length = n) (h : SnapL H cs cs') : Snap H (.ptr b n off) (.iptr cs' off) := .ptr b n off cs cs' hb hn (by rw [h.1, hn]) h.2
theorem snap_iptr {H : Hp} {cs cs' : List AV} {off : Nat} (h : SnapL H cs cs') : Snap H (.iptr cs off) (.iptr cs' off) := .iptr cs cs' off h.1 h.2
theorem Dat.iptr {cs : List AV} {off : Nat} (h : ∀ x ∈ cs, Dat x) : Dat (.iptr cs off) := fun H => .iptr cs cs off rfl (fun i a c ha hc => by rw [ha] at hc; cases hc; exact h a (List.mem_of_getElem? ha) H)
theorem DatL.nil : ∀ x ∈ ([] : List AV), Dat x := by simp
theorem DatL.cons {x : AV} {l : List AV} (h : Dat x) (hl : ∀ y ∈ l, Dat y) : ∀ y ∈ x :: l, Dat y := fun y hy => (List.mem_cons.1 hy).elim (fun e => e ▸ h) (hl y)
/-- a row of cells as it stands -/
theorem snap_msl {H : Hp} {b n off len : Nat} {cs : List AV} {l : List AV} (hb : H b = some cs) (hn : cs.length = n) (hf : off + len ≤ n) (hl : l.length = len) (hc : ∀ y ∈ l, y.cells = [y]) (h : ∀ (i : Nat) (a c : AV), cs[off + i]? = some a → l[i]? = some c → Snap H a c) : Snap H (.msl b n 1 off len) (.sl 1 l) := by
  refine .msl b n 1 off len cs l hb hn (by omega) hl (fun y hy => by rw [hc y hy]; rfl) (fun i j y a c hy hc' ha => ?_)
  rw [hc y (List.mem_of_getElem? hy)] at hc'
  cases j with
  | zero => simp at hc'; subst hc'; exact h i a y (by simpa using ha) hy
  | succ j => simp at hc'
/-- a row of numbers -/
theorem snap_row {H : Hp} {b n len : Nat} {l : List Int} (hb : H b = some (l.map (AV.int .i64))) (hn : n = len) (hl : l.length = len) : Snap H (.msl b n 1 0 len) (encV l) := by
  subst hn
  refine snap_msl hb (by simp [hl]) (by omega) (by simp [hl]) (fun y hy => by simp at hy; obtain ⟨n, _, rfl⟩ := hy; rfl) (fun i a c ha hc => ?_)
  rw [Nat.zero_add] at ha
  rw [ha] at hc; cases hc
  simp at ha
  obtain ⟨n, _, rfl⟩ := ha
  exact .int _ _

theorem snapL_datL {H : Hp} : ∀ {l : List AV}, (∀ x ∈ l, Dat x) → SnapL H l l
  | [], _ => SnapL.nil
  | x :: l, h => SnapL.cons (h x (by simp) H) (snapL_datL (fun y hy => h y (by simp [hy])))
theorem mem_getD {α : Type} [Inhabited α] {l : List α} {k : Nat} (h : k < l.length) : l.getD k default ∈ l := by
  have : l.getD k default = l[k] := by simp [List.getD, h]
  rw [this]; exact List.getElem_mem h

theorem asrc_encV {H : Hp} {l : List Int} : asrc 1 H (encV l) = some (l.length, l.map (AV.int .i64)) := by
  unfold encV; rw [asrc_sl]
  congr 2
  · simp
  · induction l with
    | nil => rfl
    | cons a l ih => simp only [List.map_cons, List.flatMap_cons, ih]; rfl
theorem ones_int {l : List Int} : AV.ones (l.map (AV.int .i64)) = true := by
  simp [AV.ones, AV.one]
theorem ones_encV {l : List (List Int)} : AV.ones (l.map encV) = true := by
  simp [AV.ones, encV, AV.one]
theorem asrc_encVV {H : Hp} {l : List (List Int)} : asrc 1 H (encVV l) = some (l.length, l.map encV) := by
  unfold encVV; rw [asrc_sl]
  congr 2
  · simp
  · induction l with
    | nil => rfl
    | cons a l ih => simp only [List.map_cons, List.flatMap_cons, ih]; rfl
theorem alenN_encV {l : List Int} : alenN (encV l) = some l.length := by simp [alenN, encV]
theorem alenN_encVV {l : List (List Int)} : alenN (encVV l) = some l.length := by simp [alenN, encVV]
theorem ones_app {l m : List AV} : AV.ones (l ++ m) = (AV.ones l && AV.ones m) := by simp [AV.ones]
theorem one_encV {l : List Int} : (encV l).one = true := rfl
theorem one_encVV {l : List (List Int)} : (encVV l).one = true := rfl
theorem snap_esl {H : Hp} {l : List Int} (h : l.length = 0) : Snap H .esl (encV l) := by
  have : l = [] := List.length_eq_zero_iff.1 h
  subst this; exact .eslsl 1
theorem snap_esl' {H : Hp} {l : List (List Int)} (h : l.length = 0) : Snap H .esl (encVV l) := by
  have : l = [] := List.length_eq_zero_iff.1 h
  subst this; exact .eslsl 1
/-- a row of data -/
theorem snap_rowD {H : Hp} {b n len : Nat} {l : List AV} (hb : H b = some l) (hn : n = len) (hl : l.length = len) (hc : ∀ y ∈ l, y.cells = [y] ∧ Dat y) : Snap H (.msl b n 1 0 len) (.sl 1 l) := by
  subst hn
  refine snap_msl hb hl (by omega) hl (fun y hy => (hc y hy).1) (fun i a c ha hc' => ?_)
  rw [Nat.zero_add] at ha
  rw [ha] at hc'; cases hc'
  exact (hc a (List.mem_of_getElem? ha)).2 H
theorem snap_rowV {H : Hp} {b n len : Nat} {l : List (List Int)} (hb : H b = some (l.map encV)) (hn : n = len) (hl : l.length = len) : Snap H (.msl b n 1 0 len) (encVV l) :=
  snap_rowD hb hn (by simp [hl]) (fun y hy => by simp at hy; obtain ⟨n, _, rfl⟩ := hy; exact ⟨rfl, encV_dat n⟩)

theorem r_0 {T : Tm} {H : Hp} {K : AV → Prop} (h : K (.tup [])) : res1 T H K [] := h
theorem getElem?_map_lt {α : Type} [Inhabited α] {f : α → AV} {l : List α} {k : Nat} (h : k < l.length) : (l.map f)[k]? = some (f (l.getD k default)) := by
  simp [List.getD, h]
theorem aixS_msl {sz b m off len : Nat} {k : IntKind} {n : Int} : aixS sz (.msl b m sz off len) (.int k n) = if 0 ≤ n ∧ n < len then some (.ptr b m (off + n.toNat * sz)) else none := by simp [aixS]
theorem lput_map {f : Int → AV} {l : List Int} {k : Nat} {x : Int} (h : k < l.length) : lput (l.map f) k [f x] = (l.set k x).map f := by
  simp only [lput, List.map_set, List.length_cons, List.length_nil, Nat.zero_add]
  rw [List.set_eq_take_append_cons_drop, if_pos (by simpa using h)]
  simp

theorem w_rangeFb {P : Program} {T : Tm} {H : Hp} {nx : Nat} {K : CP} {g : Opd} {ps : List Nat} {a b : C2} {f : FuncId} {caps : List AV} (y y1 : Nat) (hy : nx = y) (hy1 : y + 1 = y1) (hg : ov T g = .func f caps)
    (h : ∀ (c0 : AV) (cj : AEx → AV), (∀ (args : List AV) (H' : Hp) (nx' : Nat) (K' : AV → Hp → Nat → Prop), H' y = some [c0] → args.length = ps.length →
        awp2 P a (updl T ps args) H' nx' (fun e T2 H2 nx2 => athen e (H2 y = some [c0] ∧ awp2 P b T2 (hdel H2 y) nx2 fun e T3 H3 nx3 => athen e (K' (.bool true) (hupd H3 y [c0]) nx3) (K' (.bool false) (hupd H3 y [cj e]) nx3)) False) →
        Yl P y args H' nx' K') →
      Fn P f (.yld y :: caps) (hupd H y [c0]) y1 fun _ H' nx' => (H' y = some [c0] ∧ K .normal T (hdel H' y) nx') ∨ ∃ e, e ≠ .normal ∧ H' y = some [cj e] ∧ K e T (hdel H' y) nx') : awp2 P (.rangeF g ps a b) T H nx K := by
  subst hy hy1
  exact w_rangeF hg h

theorem snapF_row {H : Hp} {b n len : Nat} {l : List Int} (hb : H b = some (l.map (AV.int .i64))) (hn : n = len) (hl : l.length = len) : SnapF H (.msl b n 1 0 len) (encV l) := by
  subst hn
  refine .msl b n 1 0 n _ _ hb (by simp [hl]) (by omega) (by simp [hl]) (fun y hy => by simp at hy; obtain ⟨n, _, rfl⟩ := hy; rfl) (fun i j y a c hy hc ha => ?_)
  rw [List.getElem?_map] at hy
  cases hi : l[i]? with
  | none => rw [hi] at hy; cases hy
  | some q =>
    rw [hi] at hy; cases hy
    cases j with
    | zero =>
      simp only [AV.cells, List.getElem?_cons_zero, Option.some.injEq] at hc; subst hc
      simp [hi] at ha
      subst ha; exact .int _ _
    | succ j => simp [AV.cells] at hc
theorem snapF_esl {H : Hp} {l : List Int} (h : l.length = 0) : SnapF H .esl (encV l) := by
  have : l = [] := List.length_eq_zero_iff.1 h
  subst this; exact .eslsl 1

end Go.Abs
