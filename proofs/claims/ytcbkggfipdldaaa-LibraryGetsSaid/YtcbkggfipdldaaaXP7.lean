/- P7: contracts of functions and plain laws; for all inputs that the theorems name. -/
import Derived.Test.YtcbkggfipdldaaaXP6
import Derived.Test.YtcbkggfipdldaaaXAbsC8
set_option linter.unusedSimpArgs false
set_option linter.unusedVariables false
namespace Go.Proofs.Ytcbkggfipdldaaa
open Go Go.Abs
attribute [local irreducible] awp2 aops2 ains aloop athen bbind obind gbind acond res1 Go.Abs.Fn PCall Go.Abs.Pure SnapArgs SnapL Yl

/-! ### tasks -/
structure CaseV where
  inp : List Int
  out : List (List Int)
  calm : List (List Int)
  deriving Inhabited, DecidableEq
structure TaskV where
  n : Int
  ins : Int
  outs : Int
  cases : List CaseV
  deriving Inhabited, DecidableEq
def encC (c : CaseV) : AV := .agg [encV c.inp, encVV c.out, encVV c.calm]
def encCs (l : List CaseV) : AV := .sl 3 (l.map encC)
def encT (t : TaskV) : AV := .agg [.int .i64 t.n, .int .i64 t.ins, .int .i64 t.outs, encCs t.cases]
def T00 : TaskV := ⟨0, 0, 0, []⟩

/-- the result of made -/
structure KindV where
  n : Nat
  ins : Nat
  outs : Nat
  hasC : Bool
  pc : List Int → Bool
  pa : List Int → List Int → Bool
  pm : List Int → List Int → Bool
def caseOf (k : KindV) (i : List Int) : CaseV := ⟨i, (every k.n k.outs).filter (k.pa i), (every k.n k.outs).filter fun o => k.pa i o && k.pm i o⟩
def casesOf (k : KindV) (l : List (List Int)) : List CaseV := (l.filter k.pc).map (caseOf k)
def taskOf (k : KindV) : TaskV × Int :=
  if cnt (every k.n k.ins) k.pc = 0 then (T00, 16) else if k.hasC = true ∧ k.outs < k.n then (T00, 16) else if 1024 < cnt (every k.n k.ins) k.pc then (T00, 17) else
  if (casesOf k (every k.n k.ins)).any (fun c => decide (1024 < c.out.length)) then (T00, 17) else (⟨k.n, k.ins, k.outs, casesOf k (every k.n k.ins)⟩, 0)

/-- a condition on inputs and outputs -/
structure Cond2 (f : AV) (L M : List (List Int)) (p : List Int → List Int → Bool) : Prop where
  out : ∃ g caps, f = .func g caps ∧ (∀ c ∈ caps, Dat c) ∧ ∀ x ∈ L, ∀ y ∈ M, Pure Try.prog g (encV x :: encV y :: caps) (.bool (p x y))
theorem Cond2.dat {f : AV} {L M : List (List Int)} {p : List Int → List Int → Bool} (h : Cond2 f L M p) : Dat f ∧ f.cells = [f] ∧ f.one = true := by
  obtain ⟨g, caps, rfl, h1, _⟩ := h.out
  exact ⟨Dat.func h1, rfl, rfl⟩

theorem snapErr {H : Hp} (e : Int) : Snap H (.tup [.agg [.int .i64 0, .int .i64 0, .int .i64 0, .esl], .int .i64 e]) (.tup [encT T00, .int .i64 e]) := by
  refine snap_tup (snapL_cons (snap_agg ?_) (snapL_cons (.int _ _) snapL_nil))
  exact snapL_cons (.int _ _) (snapL_cons (.int _ _) (snapL_cons (.int _ _) (snapL_cons (.eslsl 3) snapL_nil)))

/-- what lies at the head of a round of made -/
def MadeI (k : KindV) (kc : List AV) (cs : List CaseV) (H : Hp) (nx : Nat) : Prop := 5 ≤ nx ∧ H 0 = some kc ∧ H 1 = some [.int .i64 0, .int .i64 0, .int .i64 0, .esl] ∧ H 2 = some [.int .i64 0] ∧
  ∃ s, H 3 = some [.int .i64 k.n, .int .i64 k.ins, .int .i64 k.outs, s] ∧ Row H 3 s ((cs.map encC).flatMap AV.cells) ∧ (∀ b, rowB s = some b → 6 ≤ b ∧ b < nx) ∧ ∀ c ∈ cs, c.out.length ≤ 1024

theorem MadeI.stab {k : KindV} {kc : List AV} {cs : List CaseV} {H H' : Hp} {nx nx' : Nat} (h : MadeI k kc cs H nx) (hn : nx ≤ nx') (hs : ∀ i, i < nx → i ≠ 5 → i ≠ 4 → H' i = H i) : MadeI k kc cs H' nx' := by
  obtain ⟨h5, h0, h1, h2, s, h3, hr, hb, hc⟩ := h
  refine ⟨by omega, (hs 0 (by omega) (by omega) (by omega)).trans h0, (hs 1 (by omega) (by omega) (by omega)).trans h1, (hs 2 (by omega) (by omega) (by omega)).trans h2, s, (hs 3 (by omega) (by omega) (by omega)).trans h3, hr.same (fun b hb' => ?_), fun b hb' => ?_, hc⟩
  · have := hb b hb'; exact hs b (by omega) (by omega) (by omega)
  · have := hb b hb'; omega

/-- what lies at the head of an inner round of made -/
def InI (k : KindV) (A : Hp) (a : Nat) (vec : List Int) (outs calm : List (List Int)) (H : Hp) (nx : Nat) : Prop := a + 3 ≤ nx ∧ (∀ x, x < a → x ≠ 4 → H x = A x) ∧ H a = some [.msl 5 k.n 1 0 k.n] ∧
  ∃ so sc, H (a + 1) = some [encV vec, so, sc] ∧ Row H 1 so (outs.map encV) ∧ Row H 1 sc (calm.map encV) ∧ (∀ b, rowB so = some b → a + 4 ≤ b ∧ b < nx) ∧ (∀ b, rowB sc = some b → a + 4 ≤ b ∧ b < nx) ∧ (∀ b, rowB so = some b → rowB sc ≠ some b) ∧ outs.length ≤ 1024 ∧ calm.length ≤ outs.length

theorem InI.stab {k : KindV} {A : Hp} {a : Nat} {vec : List Int} {outs calm : List (List Int)} {H H' : Hp} {nx nx' : Nat} (h : InI k A a vec outs calm H nx) (hn : nx ≤ nx') (hs : ∀ i, i < nx → i ≠ a + 2 → i ≠ a + 3 → H' i = H i) : InI k A a vec outs calm H' nx' := by
  obtain ⟨h1, h2, h3, so, sc, h4, h5, h6, h7, h8, h9, h10⟩ := h
  refine ⟨by omega, fun x hx h4' => (hs x (by omega) (by omega) (by omega)).trans (h2 x hx h4'), (hs a (by omega) (by omega) (by omega)).trans h3, so, sc, (hs (a + 1) (by omega) (by omega) (by omega)).trans h4, h5.same (fun b hb => ?_), h6.same (fun b hb => ?_), fun b hb => ?_, fun b hb => ?_, h9, h10⟩
  · have := h7 b hb; exact hs b (by omega) (by omega) (by omega)
  · have := h8 b hb; exact hs b (by omega) (by omega) (by omega)
  · have := h7 b hb; omega
  · have := h8 b hb; omega

theorem InI.put1 {k : KindV} {A D E : Hp} {a d e : Nat} {vec w : List Int} {outs calm : List (List Int)} {so sc s2 c1 : AV} (q : a + 4 ≤ d) (r2 : ∀ x, x < a → x ≠ 4 → D x = A x) (r3 : D a = some [.msl 5 k.n 1 0 k.n])
    (r6 : Row D 1 sc (calm.map encV)) (r7 : ∀ b, rowB so = some b → a + 4 ≤ b ∧ b < d) (r8 : ∀ b, rowB sc = some b → a + 4 ≤ b ∧ b < d) (r9 : ∀ b, rowB so = some b → rowB sc ≠ some b) (r10 : outs.length < 1024) (r11 : calm.length ≤ outs.length)
    (hrow : Row E 1 s2 (outs.map encV ++ [encV w])) (hle : d ≤ e) (hs : ∀ i, i < d → i ≠ a + 2 → rowB so ≠ some i → E i = D i) (hb : ∀ b, rowB s2 = some b → rowB so = some b ∨ d ≤ b ∧ b < e) :
    InI k A a vec (outs ++ [w]) calm (hupd (hupd E (a + 1) [encV vec, s2, sc]) (a + 2) [c1]) e ∧ E (a + 3) = D (a + 3) := by
  have hf : ∀ x, x < a + 4 → x ≠ a + 2 → E x = D x := fun x hx h2 => hs x (by omega) h2 (fun h => by have := r7 x h; omega)
  have h4 : ∀ b, rowB s2 = some b → a + 4 ≤ b ∧ b < e := fun b h => by
    rcases hb b h with h | h
    · have := r7 b h; omega
    · omega
  refine ⟨⟨by omega, fun x hx h => ?_, ?_, s2, sc, ?_, ?_, ?_, h4, fun b h => ?_, fun b h h' => ?_, by simp; omega, by simp; omega⟩, hf _ (by omega) (by omega)⟩
  · rw [hupd_ne (by omega), hupd_ne (by omega), hf x (by omega) (by omega), r2 x hx h]
  · rw [hupd_ne (by omega), hupd_ne (by omega), hf a (by omega) (by omega), r3]
  · rw [hupd_ne (by omega), hupd_self']
  · rw [List.map_append]
    refine hrow.same fun b h => ?_
    have := h4 b h
    rw [hupd_ne (by omega), hupd_ne (by omega)]
  · refine r6.same fun b h => ?_
    have := r8 b h
    rw [hupd_ne (by omega), hupd_ne (by omega)]
    exact hs b (by omega) (by omega) (fun h' => r9 b h' h)
  · have := r8 b h; omega
  · rcases hb b h with h2 | h2
    · exact r9 b h2 h'
    · have := r8 b h'; omega

theorem InI.put2 {k : KindV} {A D E : Hp} {a d e : Nat} {vec w : List Int} {outs calm : List (List Int)} {so sc s2 c1 : AV} (q : a + 4 ≤ d) (r2 : ∀ x, x < a → x ≠ 4 → D x = A x) (r3 : D a = some [.msl 5 k.n 1 0 k.n])
    (r5 : Row D 1 so (outs.map encV)) (r7 : ∀ b, rowB so = some b → a + 4 ≤ b ∧ b < d) (r8 : ∀ b, rowB sc = some b → a + 4 ≤ b ∧ b < d) (r9 : ∀ b, rowB so = some b → rowB sc ≠ some b) (r10 : outs.length ≤ 1024) (r11 : calm.length < outs.length)
    (hrow : Row E 1 s2 (calm.map encV ++ [encV w])) (hle : d ≤ e) (hs : ∀ i, i < d → i ≠ a + 2 → rowB sc ≠ some i → E i = D i) (hb : ∀ b, rowB s2 = some b → rowB sc = some b ∨ d ≤ b ∧ b < e) :
    InI k A a vec outs (calm ++ [w]) (hupd (hupd E (a + 1) [encV vec, so, s2]) (a + 2) [c1]) e ∧ E (a + 3) = D (a + 3) := by
  have hf : ∀ x, x < a + 4 → x ≠ a + 2 → E x = D x := fun x hx h2 => hs x (by omega) h2 (fun h => by have := r8 x h; omega)
  have h4 : ∀ b, rowB s2 = some b → a + 4 ≤ b ∧ b < e := fun b h => by
    rcases hb b h with h | h
    · have := r8 b h; omega
    · omega
  refine ⟨⟨by omega, fun x hx h => ?_, ?_, so, s2, ?_, ?_, ?_, fun b h => ?_, h4, fun b h h' => ?_, by omega, by simp; omega⟩, hf _ (by omega) (by omega)⟩
  · rw [hupd_ne (by omega), hupd_ne (by omega), hf x (by omega) (by omega), r2 x hx h]
  · rw [hupd_ne (by omega), hupd_ne (by omega), hf a (by omega) (by omega), r3]
  · rw [hupd_ne (by omega), hupd_self']
  · refine r5.same fun b h => ?_
    have := r7 b h
    rw [hupd_ne (by omega), hupd_ne (by omega)]
    exact hs b (by omega) (by omega) (fun h' => r9 b h h')
  · rw [List.map_append]
    refine hrow.same fun b h => ?_
    have := h4 b h
    rw [hupd_ne (by omega), hupd_ne (by omega)]
  · have := r7 b h; omega
  · rcases hb b h' with h2 | h2
    · exact r9 b h h2
    · have := r7 b h; omega

def hkeep (B : Nat → Bool) (H : Hp) : Hp := fun b => if B b = true then H b else none
def hdrop (B : Nat → Bool) (H : Hp) : Hp := fun b => if B b = true then none else H b
theorem CellsTo.nil {Hf : Hp} : CellsTo Hf [] [] := CellsTo.refl _ _
theorem CellsTo.cons {Hf : Hp} {x x' : AV} {cs cs' : List AV} (h : x' = x ∨ Snap Hf x x') (h2 : CellsTo Hf cs cs') : CellsTo Hf (x :: cs) (x' :: cs') := by
  refine ⟨by simp [h2.1], fun i y y' e1 e2 => ?_⟩
  cases i with
  | zero => simp at e1 e2; subst e1 e2; exact h
  | succ i => simp at e1 e2; exact h2.2 i y y' e1 e2
theorem Fz.put {H : Hp} {B : Nat → Bool} {x : Nat} {cs cs' : List AV} (hx : B x = false) (h : H x = some cs) (hc : CellsTo (hkeep B H) cs cs') : Fz (hkeep B H) H (hupd (hdrop B H) x cs') := by
  refine ⟨fun b c hb => ?_, fun b c hb => ?_⟩
  · unfold hkeep at hb; split at hb
    · exact hb
    · cases hb
  · by_cases e : b = x
    · subst e
      rw [hupd_self'] at hb
      cases hb
      exact ⟨cs, h, by simp [hkeep, hx], hc⟩
    · rw [hupd_ne e] at hb
      unfold hdrop at hb; split at hb
      · cases hb
      · rename_i hB
        exact ⟨c, hb, by simp [hkeep, hB], CellsTo.refl _ _⟩
theorem hdrop_at {B : Nat → Bool} {H : Hp} {x : Nat} (h : B x = false) : hdrop B H x = H x := by simp [hdrop, h]
theorem Row_keep {H : Hp} {sz : Nat} {s : AV} {cs : List AV} {B : Nat → Bool} (h : Row H sz s cs) (hb : ∀ b, rowB s = some b → B b = true) : Row (hkeep B H) sz s cs := h.same fun b e => by simp [hkeep, hb b e]

theorem asrc_three {H : Hp} {d : Nat} {x y z : AV} : asrc 3 (hupd H d [x, y, z]) (.msl d 3 3 0 1) = some (1, [x, y, z]) := asrc_msl (n := 3) (len := 1) (off := 0) (cs := [x, y, z]) hupd_self' rfl (by simp)

theorem asrc_one {H : Hp} {d : Nat} {x : AV} : asrc 1 (hupd H d [x]) (.msl d 1 1 0 1) = some (1, [x]) := asrc_msl (n := 1) (len := 1) (off := 0) (cs := [x]) hupd_self' rfl (by simp)

theorem made_c (k : KindV) (hn : 1 ≤ k.n ∧ k.n ≤ 5) (hi : 1 ≤ k.ins ∧ k.ins ≤ 8) (ho : 1 ≤ k.outs ∧ k.outs ≤ 8) (kk : Int) (hk : kk = -1 ∨ 1 ≤ kk ∧ kk ≤ k.n) (fc fa fm : AV)
    (hc : Cond fc (every k.n k.ins) k.pc) (hcc : k.hasC = true ↔ fc ≠ .nilf) (ha : Cond2 fa (every k.n k.ins) (every k.n k.outs) k.pa) (hm : (fm = .nilf ∧ ∀ x y, k.pm x y = false) ∨ Cond2 fm (every k.n k.ins) (every k.n k.outs) k.pm) :
    Pure Try.prog 45 [.agg [.int .i64 k.n, .int .i64 k.ins, .int .i64 k.outs, .int .i64 kk, fc, fa, fm]] (.tup [encT (taskOf k).1, .int .i64 (taskOf k).2]) := by
  refine Pure.of_c2 follows is45 (Nat.le_of_ble_eq_true rfl) ?_
  simp only [b45]
  obtain ⟨hd1, hc1, ho1⟩ := hc.dat
  obtain ⟨hd2, hc2, ho2⟩ := ha.dat
  have hd3 : Dat fm ∧ fm.cells = [fm] ∧ fm.one = true := by
    rcases hm with ⟨rfl, _⟩ | hm
    · exact ⟨.nilf, rfl, rfl⟩
    · exact hm.dat
  obtain ⟨hd3, hc3, ho3⟩ := hd3
  have hfc : ∀ tb, abin2 .neq tb true fc .nilf = some (.bool k.hasC) := by
    rcases hc.out with ⟨rfl, _⟩ | ⟨g, caps, rfl, _⟩
    · have : k.hasC = false := by cases h : k.hasC with | false => rfl | true => exact absurd rfl (hcc.1 h)
      intro tb; rw [this]; rfl
    · have : k.hasC = true := hcc.2 (by simp)
      intro tb; rw [this]; rfl
  have hH0 : ∃ H0 : Hp, H0 = hupd (hupd (hupd noBoxes 0 [.int .i64 k.n, .int .i64 k.ins, .int .i64 k.outs, .int .i64 kk, fc, fa, fm]) 1 [.int .i64 0, .int .i64 0, .int .i64 0, .esl]) 2 [.int .i64 0] := ⟨_, rfl⟩
  obtain ⟨H0, hH0⟩ := hH0
  have g0 : H0 0 = some [.int .i64 k.n, .int .i64 k.ins, .int .i64 k.outs, .int .i64 kk, fc, fa, fm] := by rw [hH0]; rfl
  have g1 : H0 1 = some [.int .i64 0, .int .i64 0, .int .i64 0, .esl] := by rw [hH0]; rfl
  have g2 : H0 2 = some [.int .i64 0] := by rw [hH0]; rfl
  have gn : ∀ i, 3 ≤ i → H0 i = none := by intro i hi; rw [hH0, hupd_ne (by omega), hupd_ne (by omega), hupd_ne (by omega)]; rfl
  refine w_seq ?_
  repeat' (first | refine w_ops0 ?_ | refine a_n ?_ | refine o_nil ?_ | (apply e_alloc rfl; (focus ((try simp only [simB0, simB1, SA, SV, SN, SR, SL, pick_bool, Nat.reduceEqDiff, ↓reduceIte, Nat.reduceAdd, Nat.reduceLeDiff, ho1, ho2, ho3]); (try with_reducible rfl); done)); (focus (simp only [SO, Bool.and_self, one_encV, one_encVV, ho1, ho2, ho3]))) | (apply e_box rfl; (focus ((try simp only [simB0, simB1, SA, SV, SN, SR, SL, pick_bool, Nat.reduceEqDiff, ↓reduceIte, Nat.reduceAdd, Nat.reduceLeDiff, ho1, ho2, ho3]); (try with_reducible rfl); done)); (focus ((try simp only [simB0, simB1, SA, SV, SN, SR, SL, pick_bool, Nat.reduceEqDiff, ↓reduceIte, Nat.reduceAdd, Nat.reduceLeDiff, ho1, ho2, ho3]); (try with_reducible rfl); done)); (focus (simp only [SO, Bool.and_self, one_encV, one_encVV, ho1, ho2, ho3]))))
  refine w_seqC (fun T H nx => H = H0 ∧ nx = 3 ∧ T 1 = .ptr 0 7 0 ∧ T 2 = .ptr 1 4 0 ∧ T 3 = .ptr 2 1 0) ?_ ?_
  · clear g0 g1 g2 gn
    repeat' (first | refine w_seq ?_ | refine w_ops0 ?_ | refine w_block ?_ | refine w_skip ?_ | refine a_n ?_ | refine o_nil ?_ | (apply o_val rfl rfl; (focus ((try simp (disch := omega) only [simB0, simB1, SA, SV, SN, SR, SL, pick_bool, Nat.reduceEqDiff, ↓reduceIte, Nat.reduceAdd, Nat.reduceLeDiff, SO, one_encV, one_encVV, Bool.and_self, Bool.false_eq_true, reduceCtorEq, wrap64, aixS_encV, aixS_encVV, alenS_encV, alenS_encVV, Int.toNat_natCast, List.length_map, aixS_msl, getElem?_map_lt, Nat.mul_one, ho1, ho2, ho3]); first | with_reducible rfl | (apply s_ite; (focus omega); with_reducible rfl)))) | (apply o_callD; (focus ((try simp only [simB0, simB1, SA, SV, SN, SR, SL, pick_bool, Nat.reduceEqDiff, ↓reduceIte, Nat.reduceAdd, Nat.reduceLeDiff, ho1, ho2, ho3]); (try with_reducible rfl); done)); (focus ((try simp only [simB0, simB1, SA, SV, SN, SR, SL, pick_bool, Nat.reduceEqDiff, ↓reduceIte, Nat.reduceAdd, Nat.reduceLeDiff, ho1, ho2, ho3]); (try with_reducible rfl); done)); (focus (first | (exact between_c _ _ _))); (focus (first | (apply snap_data; repeat' (first | exact snapL_nil | apply snapL_dat | exact Dat.int | exact Dat.bool | exact Dat.str | exact Dat.esl | exact Dat.nilf | exact encV_dat _ | exact encVV_dat _)) | (apply snap_plain; (focus (repeat' (first | exact snapL_nil | apply snapL_dat | exact Dat.int | exact Dat.bool | exact Dat.str | exact encV_dat _ | exact encVV_dat _))); rfl)))) | (apply o_gT; (focus (simp only [simB0, simB1, SA, SV, SN, SR, SL, pick_bool, Nat.reduceEqDiff, ↓reduceIte, Nat.reduceAdd, Nat.reduceLeDiff, ho1, ho2, ho3]; done))) | (apply o_gF; (focus (simp only [simB0, simB1, SA, SV, SN, SR, SL, pick_bool, Nat.reduceEqDiff, ↓reduceIte, Nat.reduceAdd, Nat.reduceLeDiff, or_true, true_or, ho1, ho2, ho3]; done))) | (apply o_gB; (focus ((try simp only [simB0, simB1, SA, SV, SN, SR, SL, pick_bool, Nat.reduceEqDiff, ↓reduceIte, Nat.reduceAdd, Nat.reduceLeDiff, ho1, ho2, ho3]); (try with_reducible rfl); done)); all_goals (intro _hg; (try simp only [Bool.not_true, Bool.not_false, Bool.not_eq_true', Bool.not_eq_false', Bool.not_not, decide_eq_true_eq, decide_eq_false_iff_not] at _hg); try (exfalso; omega))) | (apply w_condF; (focus (simp only [simB0, simB1, SA, SV, SN, SR, SL, pick_bool, Nat.reduceEqDiff, ↓reduceIte, Nat.reduceAdd, Nat.reduceLeDiff, ho1, ho2, ho3]; done))) | (apply w_cond; (focus ((try simp only [simB0, simB1, SA, SV, SN, SR, SL, pick_bool, Nat.reduceEqDiff, ↓reduceIte, Nat.reduceAdd, Nat.reduceLeDiff, ho1, ho2, ho3]); (try with_reducible rfl); done)); all_goals (intro _hg; (try simp only [Bool.not_eq_true', Bool.not_eq_false', Bool.not_not, decide_eq_true_eq, decide_eq_false_iff_not] at _hg); try (exfalso; omega))))
    all_goals exact ⟨hH0.symm, rfl, rfl, rfl, rfl⟩
  · rintro T H nx ⟨rfl, rfl, t1, t2, t3⟩
    clear hH0
    refine w_seqC (fun T H' nx => H' = H ∧ nx = 3 ∧ T 1 = .ptr 0 7 0 ∧ T 2 = .ptr 1 4 0 ∧ T 3 = .ptr 2 1 0 ∧ 0 < cnt (every k.n k.ins) k.pc ∧ cnt (every k.n k.ins) k.pc ≤ 1024 ∧ ¬ (k.hasC = true ∧ k.outs < k.n)) ?_ ?_
    · repeat' (first | refine w_seq ?_ | refine w_ops0 ?_ | refine w_block ?_ | refine w_skip ?_ | refine w_ret ?_ | refine a_n ?_ | refine a_r ?_ | refine o_nil ?_ | (apply o_val rfl rfl; (focus ((try simp (disch := omega) only [simB0, simB1, SA, SV, SN, SR, SL, pick_bool, Nat.reduceEqDiff, ↓reduceIte, Nat.reduceAdd, Nat.reduceLeDiff, SO, one_encV, one_encVV, Bool.and_self, Bool.false_eq_true, reduceCtorEq, wrap64, aixS_encV, aixS_encVV, alenS_encV, alenS_encVV, Int.toNat_natCast, List.length_map, aixS_msl, getElem?_map_lt, Nat.mul_one, t1, t2, t3, g0, g1, g2, hfc, ho1, ho2, ho3]); first | with_reducible rfl | (apply s_ite; (focus omega); with_reducible rfl)))) | (apply o_callD; (focus ((try simp only [simB0, simB1, SA, SV, SN, SR, SL, pick_bool, Nat.reduceEqDiff, ↓reduceIte, Nat.reduceAdd, Nat.reduceLeDiff, t1, t2, t3, g0, g1, g2, hfc, ho1, ho2, ho3]); (try with_reducible rfl); done)); (focus ((try simp only [simB0, simB1, SA, SV, SN, SR, SL, pick_bool, Nat.reduceEqDiff, ↓reduceIte, Nat.reduceAdd, Nat.reduceLeDiff, t1, t2, t3, g0, g1, g2, hfc, ho1, ho2, ho3]); (try with_reducible rfl); done)); (focus (first | (exact many_c _ _ 1024 (by omega) (by omega) (by omega) _ _ hc))); (focus (first | (apply snap_data; repeat' (first | exact snapL_nil | apply snapL_dat | exact Dat.int | exact Dat.bool | exact Dat.str | exact Dat.esl | exact Dat.nilf | exact encV_dat _ | exact encVV_dat _ | exact hd1)) | (apply snap_plain; (focus (repeat' (first | exact snapL_nil | apply snapL_dat | exact Dat.int | exact Dat.bool | exact Dat.str | exact encV_dat _ | exact encVV_dat _ | exact hd1))); rfl)))) | (apply e_st rfl; (focus ((try simp only [simB0, simB1, SA, SV, SN, SR, SL, pick_bool, Nat.reduceEqDiff, ↓reduceIte, Nat.reduceAdd, Nat.reduceLeDiff, t1, t2, t3, g0, g1, g2, hfc, ho1, ho2, ho3]); (try with_reducible rfl); done)); (focus ((try simp only [simB0, simB1, SA, SV, SN, SR, SL, pick_bool, Nat.reduceEqDiff, ↓reduceIte, Nat.reduceAdd, Nat.reduceLeDiff, t1, t2, t3, g0, g1, g2, hfc, ho1, ho2, ho3]); (try with_reducible rfl); done)); (focus ((try simp only [simB0, simB1, SA, SV, SN, SR, SL, pick_bool, Nat.reduceEqDiff, ↓reduceIte, Nat.reduceAdd, Nat.reduceLeDiff, t1, t2, t3, g0, g1, g2, hfc, ho1, ho2, ho3]); (try with_reducible rfl); done)); (focus ((try simp only [simB0, simB1, SA, SV, SN, SR, SL, pick_bool, Nat.reduceEqDiff, ↓reduceIte, Nat.reduceAdd, Nat.reduceLeDiff, t1, t2, t3, g0, g1, g2, hfc, ho1, ho2, ho3]); (try with_reducible rfl); done)); (focus (simp only [SO, Bool.and_self, one_encV, one_encVV, t1, t2, t3, g0, g1, g2, hfc, ho1, ho2, ho3])); (focus ((try simp only [SL, Nat.reduceAdd, Nat.reduceMul, List.length_map]); first | done | omega)); (focus ((try simp only [SL, Nat.reduceAdd, Nat.reduceMul, List.length_map]); first | done | omega)); (focus ((try simp only [SL, Nat.reduceAdd, Nat.reduceMul, List.length_map]); first | done | omega))) | (apply o_gT; (focus (simp only [simB0, simB1, SA, SV, SN, SR, SL, pick_bool, Nat.reduceEqDiff, ↓reduceIte, Nat.reduceAdd, Nat.reduceLeDiff, t1, t2, t3, g0, g1, g2, hfc, ho1, ho2, ho3]; done))) | (apply o_gF; (focus (simp only [simB0, simB1, SA, SV, SN, SR, SL, pick_bool, Nat.reduceEqDiff, ↓reduceIte, Nat.reduceAdd, Nat.reduceLeDiff, or_true, true_or, t1, t2, t3, g0, g1, g2, hfc, ho1, ho2, ho3]; done))) | (apply o_gB; (focus ((try simp only [simB0, simB1, SA, SV, SN, SR, SL, pick_bool, Nat.reduceEqDiff, ↓reduceIte, Nat.reduceAdd, Nat.reduceLeDiff, t1, t2, t3, g0, g1, g2, hfc, ho1, ho2, ho3]); (try with_reducible rfl); done)); all_goals (intro _hg; (try simp only [Bool.not_true, Bool.not_false, Bool.not_eq_true', Bool.not_eq_false', Bool.not_not, decide_eq_true_eq, decide_eq_false_iff_not] at _hg); try (exfalso; omega))) | (apply w_condF; (focus (simp only [simB0, simB1, SA, SV, SN, SR, SL, pick_bool, Nat.reduceEqDiff, ↓reduceIte, Nat.reduceAdd, Nat.reduceLeDiff, t1, t2, t3, g0, g1, g2, hfc, ho1, ho2, ho3]; done))) | (apply w_cond; (focus ((try simp only [simB0, simB1, SA, SV, SN, SR, SL, pick_bool, Nat.reduceEqDiff, ↓reduceIte, Nat.reduceAdd, Nat.reduceLeDiff, t1, t2, t3, g0, g1, g2, hfc, ho1, ho2, ho3]); (try with_reducible rfl); done)); all_goals (intro _hg; (try simp only [Bool.not_eq_true', Bool.not_eq_false', Bool.not_not, decide_eq_true_eq, decide_eq_false_iff_not] at _hg); try (exfalso; omega))) | (refine e_ends rfl ?_) | (apply r_2; (focus (simp only [rv, simB0, simB1, SA, SV, SN, SR, SL, pick_bool, Nat.reduceEqDiff, ↓reduceIte, Nat.reduceAdd, Nat.reduceLeDiff, t1, t2, t3, g0, g1, g2, hfc, ho1, ho2, ho3]; with_reducible rfl)); (focus (simp only [rv, simB0, simB1, SA, SV, SN, SR, SL, pick_bool, Nat.reduceEqDiff, ↓reduceIte, Nat.reduceAdd, Nat.reduceLeDiff, t1, t2, t3, g0, g1, g2, hfc, ho1, ho2, ho3]; with_reducible rfl))))
      · have e : taskOf k = (T00, 16) := by unfold taskOf; rw [if_pos (by omega)]
        rw [e]; exact snapErr 16
      · have e : taskOf k = (T00, 16) := by unfold taskOf; rw [if_neg (by omega), if_pos ⟨by assumption, by omega⟩]
        rw [e]; exact snapErr 16
      · have e : taskOf k = (T00, 17) := by unfold taskOf; rw [if_neg (by omega), if_neg (fun h => by omega), if_pos (by omega)]
        rw [e]; exact snapErr 17
      · exact ⟨rfl, rfl, t1, t2, t3, by omega, by omega, fun h => by omega⟩
      · have e : taskOf k = (T00, 17) := by unfold taskOf; rw [if_neg (by omega), if_neg (fun h => by simp_all), if_pos (by omega)]
        rw [e]; exact snapErr 17
      · exact ⟨rfl, rfl, t1, t2, t3, by omega, by omega, fun h => by simp_all⟩
    · clear t1 t2 t3
      rintro T H' nx ⟨rfl, rfl, t1, t2, t3, c1, c2, c3⟩
      refine w_seq ?_
      repeat' (first | refine w_ops0 ?_ | refine a_n ?_ | refine o_nil ?_ | (apply o_val rfl rfl; (focus ((try simp (disch := omega) only [simB0, simB1, SA, SV, SN, SR, SL, pick_bool, Nat.reduceEqDiff, ↓reduceIte, Nat.reduceAdd, Nat.reduceLeDiff, SO, one_encV, one_encVV, Bool.and_self, Bool.false_eq_true, reduceCtorEq, wrap64, aixS_encV, aixS_encVV, alenS_encV, alenS_encVV, Int.toNat_natCast, List.length_map, aixS_msl, getElem?_map_lt, Nat.mul_one, t1, t2, t3, g0, g1, g2, ho1, ho2, ho3]); first | with_reducible rfl | (apply s_ite; (focus omega); with_reducible rfl)))) | (apply e_alloc rfl; (focus ((try simp only [simB0, simB1, SA, SV, SN, SR, SL, pick_bool, Nat.reduceEqDiff, ↓reduceIte, Nat.reduceAdd, Nat.reduceLeDiff, t1, t2, t3, g0, g1, g2, ho1, ho2, ho3]); (try with_reducible rfl); done)); (focus (simp only [SO, Bool.and_self, one_encV, one_encVV, t1, t2, t3, g0, g1, g2, ho1, ho2, ho3]))) | (apply e_st rfl; (focus ((try simp only [simB0, simB1, SA, SV, SN, SR, SL, pick_bool, Nat.reduceEqDiff, ↓reduceIte, Nat.reduceAdd, Nat.reduceLeDiff, t1, t2, t3, g0, g1, g2, ho1, ho2, ho3]); (try with_reducible rfl); done)); (focus ((try simp only [simB0, simB1, SA, SV, SN, SR, SL, pick_bool, Nat.reduceEqDiff, ↓reduceIte, Nat.reduceAdd, Nat.reduceLeDiff, t1, t2, t3, g0, g1, g2, ho1, ho2, ho3]); (try with_reducible rfl); done)); (focus ((try simp only [simB0, simB1, SA, SV, SN, SR, SL, pick_bool, Nat.reduceEqDiff, ↓reduceIte, Nat.reduceAdd, Nat.reduceLeDiff, t1, t2, t3, g0, g1, g2, ho1, ho2, ho3]); (try with_reducible rfl); done)); (focus ((try simp only [simB0, simB1, SA, SV, SN, SR, SL, pick_bool, Nat.reduceEqDiff, ↓reduceIte, Nat.reduceAdd, Nat.reduceLeDiff, t1, t2, t3, g0, g1, g2, ho1, ho2, ho3]); (try with_reducible rfl); done)); (focus (simp only [SO, Bool.and_self, one_encV, one_encVV, t1, t2, t3, g0, g1, g2, ho1, ho2, ho3])); (focus ((try simp only [SL, Nat.reduceAdd, Nat.reduceMul, List.length_map]); first | done | omega)); (focus ((try simp only [SL, Nat.reduceAdd, Nat.reduceMul, List.length_map]); first | done | omega)); (focus ((try simp only [SL, Nat.reduceAdd, Nat.reduceMul, List.length_map]); first | done | omega))))
      have hlc : ∀ l : List CaseV, (∀ y ∈ l.map encC, y.cells.length = 3) := by
        intro l y hy; simp at hy; obtain ⟨c, _, rfl⟩ := hy; rfl
      have hmany : ∀ i, ((casesOf k ((every k.n k.ins).take i)).length ≤ 1024) := by
        intro i; unfold casesOf; rw [List.length_map]; exact Nat.le_trans (cnt_mono _ _ i) c2
      refine w_seqC (fun T' H' nx' => T' 2 = .ptr 1 4 0 ∧ T' 3 = .ptr 2 1 0 ∧ T' 5 = .ptr 3 4 0 ∧ H' 1 = some [.int .i64 0, .int .i64 0, .int .i64 0, .esl] ∧ H' 2 = some [.int .i64 0] ∧
        ∃ s, H' 3 = some [.int .i64 k.n, .int .i64 k.ins, .int .i64 k.outs, s] ∧ Row H' 3 s (((casesOf k (every k.n k.ins)).map encC).flatMap AV.cells) ∧ (∀ b, rowB s = some b → 6 ≤ b) ∧ ∀ c ∈ casesOf k (every k.n k.ins), c.out.length ≤ 1024) ?_ ?_
      rotate_left
      · rintro T' H' nx' ⟨u2, u3, u5, e1, e2, s, e3, hrow, hb6, hall⟩
        obtain ⟨hso, hsc⟩ := hrow.one
        repeat' (first | refine w_seq ?_ | refine w_ops0 ?_ | refine w_ret ?_ | refine a_n ?_ | refine o_nil ?_ | (apply o_val rfl rfl; (focus ((try simp (disch := omega) only [simB0, simB1, SA, SV, SN, SR, SL, pick_bool, Nat.reduceEqDiff, ↓reduceIte, Nat.reduceAdd, Nat.reduceLeDiff, SO, one_encV, one_encVV, Bool.and_self, Bool.false_eq_true, reduceCtorEq, wrap64, aixS_encV, aixS_encVV, alenS_encV, alenS_encVV, Int.toNat_natCast, List.length_map, aixS_msl, getElem?_map_lt, Nat.mul_one, u2, u3, u5, e1, e2, e3, hso, hsc]); first | with_reducible rfl | (apply s_ite; (focus omega); with_reducible rfl)))) | (apply e_st rfl; (focus ((try simp only [simB0, simB1, SA, SV, SN, SR, SL, pick_bool, Nat.reduceEqDiff, ↓reduceIte, Nat.reduceAdd, Nat.reduceLeDiff, u2, u3, u5, e1, e2, e3, hso, hsc]); (try with_reducible rfl); done)); (focus ((try simp only [simB0, simB1, SA, SV, SN, SR, SL, pick_bool, Nat.reduceEqDiff, ↓reduceIte, Nat.reduceAdd, Nat.reduceLeDiff, u2, u3, u5, e1, e2, e3, hso, hsc]); (try with_reducible rfl); done)); (focus ((try simp only [simB0, simB1, SA, SV, SN, SR, SL, pick_bool, Nat.reduceEqDiff, ↓reduceIte, Nat.reduceAdd, Nat.reduceLeDiff, u2, u3, u5, e1, e2, e3, hso, hsc]); (try with_reducible rfl); done)); (focus ((try simp only [simB0, simB1, SA, SV, SN, SR, SL, pick_bool, Nat.reduceEqDiff, ↓reduceIte, Nat.reduceAdd, Nat.reduceLeDiff, u2, u3, u5, e1, e2, e3, hso, hsc]); (try with_reducible rfl); done)); (focus (simp only [SO, Bool.and_self, one_encV, one_encVV, u2, u3, u5, e1, e2, e3, hso, hsc])); (focus ((try simp only [SL, Nat.reduceAdd, Nat.reduceMul, List.length_map]); first | done | omega)); (focus ((try simp only [SL, Nat.reduceAdd, Nat.reduceMul, List.length_map]); first | done | omega)); (focus ((try simp only [SL, Nat.reduceAdd, Nat.reduceMul, List.length_map]); first | done | omega))) | (refine e_ends rfl ?_) | (apply r_2; (focus (simp only [rv, simB0, simB1, SA, SV, SN, SR, SL, pick_bool, Nat.reduceEqDiff, ↓reduceIte, Nat.reduceAdd, Nat.reduceLeDiff, u2, u3, u5, e1, e2, e3, hso, hsc]; with_reducible rfl)); (focus (simp only [rv, simB0, simB1, SA, SV, SN, SR, SL, pick_bool, Nat.reduceEqDiff, ↓reduceIte, Nat.reduceAdd, Nat.reduceLeDiff, u2, u3, u5, e1, e2, e3, hso, hsc]; with_reducible rfl))))
        have e : taskOf k = (⟨k.n, k.ins, k.outs, casesOf k (every k.n k.ins)⟩, 0) := by
          unfold taskOf
          rw [if_neg (by omega), if_neg c3, if_neg (by omega), if_neg]
          rw [List.any_eq_true]
          rintro ⟨c, hc1, hc2⟩
          have := hall c hc1
          simp at hc2; omega
        rw [e]
        refine snap_tup (snapL_cons (snap_agg ?_) (snapL_cons (.int _ _) snapL_nil))
        refine snapL_cons (.int _ _) (snapL_cons (.int _ _) (snapL_cons (.int _ _) (snapL_cons ?_ snapL_nil)))
        refine Row.snap (hrow.same fun b hb => ?_) (hlc _) (by omega) (fun y hy c hc' => ?_)
        · have := hb6 b hb
          rw [hupd_ne (by omega), hupd_ne (by omega)]
        · simp at hy; obtain ⟨q, _, rfl⟩ := hy
          simp only [encC, AV.cells, List.mem_cons, List.not_mem_nil, or_false] at hc'
          rcases hc' with rfl | rfl | rfl
          · exact encV_dat _
          · exact encVV_dat _
          · exact encVV_dat _
      refine w_seq ?_
      repeat' (first | refine w_ops0 ?_ | refine a_n ?_ | refine o_nil ?_ | (apply o_val rfl rfl; (focus ((try simp (disch := omega) only [simB0, simB1, SA, SV, SN, SR, SL, pick_bool, Nat.reduceEqDiff, ↓reduceIte, Nat.reduceAdd, Nat.reduceLeDiff, SO, one_encV, one_encVV, Bool.and_self, Bool.false_eq_true, reduceCtorEq, wrap64, aixS_encV, aixS_encVV, alenS_encV, alenS_encVV, Int.toNat_natCast, List.length_map, aixS_msl, getElem?_map_lt, Nat.mul_one, t1, t2, t3, g0, g1, g2, ho1, ho2, ho3]); first | with_reducible rfl | (apply s_ite; (focus omega); with_reducible rfl)))) | (apply o_callD; (focus ((try simp only [simB0, simB1, SA, SV, SN, SR, SL, pick_bool, Nat.reduceEqDiff, ↓reduceIte, Nat.reduceAdd, Nat.reduceLeDiff, t1, t2, t3, g0, g1, g2, ho1, ho2, ho3]); (try with_reducible rfl); done)); (focus ((try simp only [simB0, simB1, SA, SV, SN, SR, SL, pick_bool, Nat.reduceEqDiff, ↓reduceIte, Nat.reduceAdd, Nat.reduceLeDiff, t1, t2, t3, g0, g1, g2, ho1, ho2, ho3]); (try with_reducible rfl); done)); (focus (first | (exact each_c _ _))); (focus (first | (apply snap_data; repeat' (first | exact snapL_nil | apply snapL_dat | exact Dat.int | exact Dat.bool | exact Dat.str | exact Dat.esl | exact Dat.nilf | exact encV_dat _ | exact encVV_dat _)) | (apply snap_plain; (focus (repeat' (first | exact snapL_nil | apply snapL_dat | exact Dat.int | exact Dat.bool | exact Dat.str | exact encV_dat _ | exact encVV_dat _))); rfl)))))
      refine w_block ?_
      refine w_rangeFb 4 5 rfl rfl (by ((try simp only [simB0, simB1, SA, SV, SN, SR, SL, pick_bool, Nat.reduceEqDiff, ↓reduceIte, Nat.reduceAdd, Nat.reduceLeDiff]); (try with_reducible rfl))) (fun c0 cj hy => ?_)
      have hL : ∀ i, i < (every k.n k.ins).length → casesOf k ((every k.n k.ins).take (i + 1)) = casesOf k ((every k.n k.ins).take i) ++ (if k.pc ((every k.n k.ins).getD i []) = true then [caseOf k ((every k.n k.ins).getD i [])] else []) := by
        intro i hi
        have : (every k.n k.ins).take (i + 1) = (every k.n k.ins).take i ++ [(every k.n k.ins).getD i []] := take_succ' hi
        rw [this]
        unfold casesOf
        rw [List.filter_append, List.map_append]
        congr 1
        simp only [List.filter_cons, List.filter_nil]
        split <;> rfl
      generalize hkc : [AV.int .i64 k.n, .int .i64 k.ins, .int .i64 k.outs, .int .i64 kk, fc, fa, fm] = kc at *
      refine Abs.Fn.mono (each_it (by omega) (by omega) (fun i H' nx => MadeI k kc (casesOf k ((every k.n k.ins).take i)) H' nx ∧ H' 4 = some [c0])
        (fun H' nx => H' 4 = some [cj .ret] ∧ H' 1 = some [.int .i64 0, .int .i64 0, .int .i64 0, .esl] ∧ H' 2 = some [.int .i64 17] ∧ ∃ c ∈ casesOf k (every k.n k.ins), 1024 < c.out.length) ?_ ?_ ?_) ?_
      · rintro i A B a b ⟨h1, h2⟩ hab _ hs
        exact ⟨h1.stab hab (fun i hi h5 _ => hs i hi h5), (hs 4 (by have := h1.1; omega) (by omega)).trans h2⟩
      · exact ⟨⟨Nat.le_refl _, g0, g1, g2, .esl, rfl, Row.nil, fun b hb => (by cases hb), fun c hc => (by cases hc)⟩, rfl⟩
      · rintro i A a hi ⟨hI, h4⟩ hn5 hA
        refine hy _ _ _ _ h4 rfl ?_
        clear hy
        have hmem : (every k.n k.ins).getD i [] ∈ every k.n k.ins := mem_getD (l := every k.n k.ins) hi
        have hvl := every_len k.n k.ins _ hmem
        have hLi := hL i hi
        generalize (every k.n k.ins).getD i [] = vec at hA hmem hvl hLi
        have h5 := hI.1
        obtain ⟨_, i0, i1, i2, s, i3, ir, ib, ic⟩ := hI
        have hI : MadeI k kc (casesOf k ((every k.n k.ins).take i)) A a := ⟨h5, i0, i1, i2, s, i3, ir, ib, ic⟩
        repeat' (first | refine w_ops0 ?_ | refine a_n ?_ | refine o_nil ?_ | (apply e_alloc rfl; (focus ((try simp (disch := omega) only [simB2, simB1, SA, SV, SN, SR, SL, pick_bool, Nat.reduceEqDiff, ↓reduceIte, Nat.reduceAdd, Nat.reduceLeDiff, i0, i1, i2, i3, h4, hA]); (try with_reducible rfl); done)); (focus (simp (disch := omega) only [SO, Bool.and_self, one_encV, one_encVV, i0, i1, i2, i3, h4, hA]))) | (apply e_st; (focus (first | rfl | (simp (disch := omega) only [dm2, oldP, newP, simB0, simB1, SA, SV, SN, SR, SL, pick_bool, Nat.reduceEqDiff, ↓reduceIte, Nat.reduceAdd, Nat.reduceLeDiff, decide_eq_true_eq]; first | done | omega))); (focus ((try simp (disch := omega) only [simB2, simB1, SA, SV, SN, SR, SL, pick_bool, Nat.reduceEqDiff, ↓reduceIte, Nat.reduceAdd, Nat.reduceLeDiff, i0, i1, i2, i3, h4, hA]); (try with_reducible rfl); done)); (focus ((try simp (disch := omega) only [simB2, simB1, SA, SV, SN, SR, SL, pick_bool, Nat.reduceEqDiff, ↓reduceIte, Nat.reduceAdd, Nat.reduceLeDiff, i0, i1, i2, i3, h4, hA]); (try with_reducible rfl); done)); (focus ((try simp (disch := omega) only [simB2, simB1, SA, SV, SN, SR, SL, pick_bool, Nat.reduceEqDiff, ↓reduceIte, Nat.reduceAdd, Nat.reduceLeDiff, i0, i1, i2, i3, h4, hA]); (try with_reducible rfl); done)); (focus ((try simp (disch := omega) only [simB2, simB1, SA, SV, SN, SR, SL, pick_bool, Nat.reduceEqDiff, ↓reduceIte, Nat.reduceAdd, Nat.reduceLeDiff, i0, i1, i2, i3, h4, hA]); (try with_reducible rfl); done)); (focus (simp (disch := omega) only [SO, Bool.and_self, one_encV, one_encVV, i0, i1, i2, i3, h4, hA])); (focus ((try simp (disch := omega) only [SL, Nat.reduceAdd, Nat.reduceMul, List.length_map]); first | done | omega)); (focus ((try simp (disch := omega) only [SL, Nat.reduceAdd, Nat.reduceMul, List.length_map]); first | done | omega)); (focus ((try simp (disch := omega) only [SL, Nat.reduceAdd, Nat.reduceMul, List.length_map]); first | done | omega))))
        refine ⟨by rw [hupd_ne (by omega), hupd_ne (by omega)]; exact h4, ?_⟩
        refine w_block ?_
        refine w_seqC (fun T' H' nx => (∀ x, x ≠ a → x ≠ 4 → H' x = A x) ∧ H' a = some [.msl 5 k.n 1 0 k.n] ∧ nx = a + 1 ∧ T' 1 = .ptr 0 7 0 ∧ T' 2 = .ptr 1 4 0 ∧ T' 3 = .ptr 2 1 0 ∧ T' 5 = .ptr 3 4 0 ∧ T' 6 = .ptr a 1 0 ∧ k.pc vec = true) ?_ ?_
        · have hfr : ∀ x, x ≠ a → x ≠ 4 → hdel (hupd (hupd A a [AV.esl]) a (lput [AV.esl] 0 [AV.msl 5 k.n 1 0 k.n])) 4 x = A x := fun x h1 h2 => by
            rw [hdel_ne h2, hupd_ne h1, hupd_ne h1]
          have hself : hdel (hupd (hupd A a [AV.esl]) a (lput [AV.esl] 0 [AV.msl 5 k.n 1 0 k.n])) 4 a = some [.msl 5 k.n 1 0 k.n] := by
            rw [hdel_ne (by omega), hupd_self']; rfl
          generalize hdel (hupd (hupd A a [AV.esl]) a (lput [AV.esl] 0 [AV.msl 5 k.n 1 0 k.n])) 4 = B at hfr hself
          have b0 := (hfr 0 (by omega) (by omega)).trans i0
          have b5 := (hfr 5 (by omega) (by omega)).trans hA
          rw [← hkc] at b0
          rcases hc.out with ⟨rfl, hp⟩ | ⟨g, caps, rfl, hcd, hg⟩
          · repeat' (first | refine w_seq ?_ | refine w_ops0 ?_ | refine w_skip ?_ | refine a_n ?_ | refine o_nil ?_ | (apply o_val rfl rfl; (focus ((try simp (disch := omega) only [simB0, simB1, SA, SV, SN, SR, SL, pick_bool, Nat.reduceEqDiff, ↓reduceIte, Nat.reduceAdd, Nat.reduceLeDiff, SO, one_encV, one_encVV, Bool.and_self, Bool.false_eq_true, reduceCtorEq, wrap64, aixS_encV, aixS_encVV, alenS_encV, alenS_encVV, Int.toNat_natCast, List.length_map, aixS_msl, getElem?_map_lt, Nat.mul_one, t1, t2, t3, b0, hself]); first | with_reducible rfl | (apply s_ite; (focus omega); with_reducible rfl)))) | (apply o_gF; (focus (simp only [simB0, simB1, SA, SV, SN, SR, SL, pick_bool, Nat.reduceEqDiff, ↓reduceIte, Nat.reduceAdd, Nat.reduceLeDiff, or_true, true_or, t1, t2, t3, b0, hself]; done))) | (apply w_condF; (focus (simp only [simB0, simB1, SA, SV, SN, SR, SL, pick_bool, Nat.reduceEqDiff, ↓reduceIte, Nat.reduceAdd, Nat.reduceLeDiff, t1, t2, t3, b0, hself]; done))))
            exact ⟨hfr, hself, rfl, t1, t2, t3, rfl, rfl, hp _⟩
          · repeat' (first | refine w_seq ?_ | refine w_ops0 ?_ | (apply o_val rfl rfl; (focus ((try simp (disch := omega) only [simB0, simB1, SA, SV, SN, SR, SL, pick_bool, Nat.reduceEqDiff, ↓reduceIte, Nat.reduceAdd, Nat.reduceLeDiff, SO, one_encV, one_encVV, Bool.and_self, Bool.false_eq_true, reduceCtorEq, wrap64, aixS_encV, aixS_encVV, alenS_encV, alenS_encVV, Int.toNat_natCast, List.length_map, aixS_msl, getElem?_map_lt, Nat.mul_one, t1, t2, t3, b0, hself]); first | with_reducible rfl | (apply s_ite; (focus omega); with_reducible rfl)))) | (apply o_gT; (focus (simp only [simB0, simB1, SA, SV, SN, SR, SL, pick_bool, Nat.reduceEqDiff, ↓reduceIte, Nat.reduceAdd, Nat.reduceLeDiff, t1, t2, t3, b0, hself]; done))))
            refine o_callP (by ((try simp only [simB0, simB1, SA, SV, SN, SR, SL, pick_bool, Nat.reduceEqDiff, ↓reduceIte, Nat.reduceAdd, Nat.reduceLeDiff]); (try with_reducible rfl))) (by ((try simp only [simB0, simB1, SA, SV, SN, SR, SL, pick_bool, Nat.reduceEqDiff, ↓reduceIte, Nat.reduceAdd, Nat.reduceLeDiff]); (try with_reducible rfl))) (hg _ hmem) (snap_plain (snapL_cons (snap_row b5 rfl hvl) (snapL_datL hcd)) rfl) ?_
            repeat' (first | refine w_skip ?_ | refine w_exit ?_ | refine a_n ?_ | refine a_x ?_ | refine o_nil ?_ | (apply o_val rfl rfl; (focus ((try simp (disch := omega) only [simB0, simB1, SA, SV, SN, SR, SL, pick_bool, Nat.reduceEqDiff, ↓reduceIte, Nat.reduceAdd, Nat.reduceLeDiff, SO, one_encV, one_encVV, Bool.and_self, Bool.false_eq_true, reduceCtorEq, wrap64, aixS_encV, aixS_encVV, alenS_encV, alenS_encVV, Int.toNat_natCast, List.length_map, aixS_msl, getElem?_map_lt, Nat.mul_one, t1, t2, t3, b0, hself]); first | with_reducible rfl | (apply s_ite; (focus omega); with_reducible rfl)))) | (apply o_gT; (focus (simp only [simB0, simB1, SA, SV, SN, SR, SL, pick_bool, Nat.reduceEqDiff, ↓reduceIte, Nat.reduceAdd, Nat.reduceLeDiff, t1, t2, t3, b0, hself]; done))) | (apply w_cond; (focus ((try simp only [simB0, simB1, SA, SV, SN, SR, SL, pick_bool, Nat.reduceEqDiff, ↓reduceIte, Nat.reduceAdd, Nat.reduceLeDiff, t1, t2, t3, b0, hself]); (try with_reducible rfl); done)); all_goals (intro _hg; (try simp only [Bool.not_eq_true', Bool.not_eq_false', Bool.not_not, decide_eq_true_eq, decide_eq_false_iff_not] at _hg); try (exfalso; omega))))
            · refine .inl ⟨rfl, ⟨?_, hupd_self'⟩, by omega, by omega, (hupd_ne (by omega)).trans (hfr 5 (by omega) (by omega))⟩
              rw [hLi, _hg, if_neg (by simp), List.append_nil]
              exact hI.stab (by omega) (fun x hx _ h4 => (hupd_ne h4).trans (hfr x (by omega) h4))
            · exact ⟨hfr, hself, rfl, t1, t2, t3, rfl, rfl, _hg⟩
        · rintro T' B b ⟨hfr, hself, rfl, u1, u2, u3, u5, u6, hpc⟩
          clear t1 t2 t3
          have b0 := (hfr 0 (by omega) (by omega)).trans i0
          have b1 := (hfr 1 (by omega) (by omega)).trans i1
          have b2 := (hfr 2 (by omega) (by omega)).trans i2
          have b3 := (hfr 3 (by omega) (by omega)).trans i3
          have b5 := (hfr 5 (by omega) (by omega)).trans hA
          rw [← hkc] at b0
          have hsv : Sh vec := by show _ ≤ _; omega
          refine w_seq ?_
          repeat' (first | refine w_ops0 ?_ | (apply o_val rfl; (focus (first | rfl | (simp (disch := omega) only [dm2, oldP, newP, simB0, simB1, SA, SV, SN, SR, SL, pick_bool, Nat.reduceEqDiff, ↓reduceIte, Nat.reduceAdd, Nat.reduceLeDiff, decide_eq_true_eq]; first | done | omega))); (focus ((try simp (disch := omega) only [simB2, simB1, SA, SV, SN, SR, SL, pick_bool, Nat.reduceEqDiff, ↓reduceIte, Nat.reduceAdd, Nat.reduceLeDiff, SO, one_encV, one_encVV, Bool.and_self, Bool.false_eq_true, reduceCtorEq, wrap64, aixS_encV, aixS_encVV, alenS_encV, alenS_encVV, Int.toNat_natCast, List.length_map, aixS_msl, getElem?_map_lt, Nat.mul_one, u1, u2, u3, u5, u6, hself]); first | with_reducible rfl | (apply s_ite; (focus omega); with_reducible rfl)))))
          refine o_callF (by ((try simp only [simB0, simB1, SA, SV, SN, SR, SL, pick_bool, Nat.reduceEqDiff, ↓reduceIte, Nat.reduceAdd, Nat.reduceLeDiff]); (try with_reducible rfl))) (by ((try simp only [simB0, simB1, SA, SV, SN, SR, SL, pick_bool, Nat.reduceEqDiff, ↓reduceIte, Nat.reduceAdd, Nat.reduceLeDiff]); (try with_reducible rfl))) (cloneF_c vec hsv) (snapL_cons (snap_row b5 rfl hvl) snapL_nil) ?_
          repeat' (first | refine a_n ?_ | refine o_nil ?_ | (apply o_val rfl; (focus (first | rfl | (simp (disch := omega) only [dm2, oldP, newP, simB0, simB1, SA, SV, SN, SR, SL, pick_bool, Nat.reduceEqDiff, ↓reduceIte, Nat.reduceAdd, Nat.reduceLeDiff, decide_eq_true_eq]; first | done | omega))); (focus ((try simp (disch := omega) only [simB2, simB1, SA, SV, SN, SR, SL, pick_bool, Nat.reduceEqDiff, ↓reduceIte, Nat.reduceAdd, Nat.reduceLeDiff, SO, one_encV, one_encVV, Bool.and_self, Bool.false_eq_true, reduceCtorEq, wrap64, aixS_encV, aixS_encVV, alenS_encV, alenS_encVV, Int.toNat_natCast, List.length_map, aixS_msl, getElem?_map_lt, Nat.mul_one, u1, u2, u3, u5, u6, hself]); first | with_reducible rfl | (apply s_ite; (focus omega); with_reducible rfl)))) | (apply e_alloc rfl; (focus ((try simp (disch := omega) only [simB2, simB1, SA, SV, SN, SR, SL, pick_bool, Nat.reduceEqDiff, ↓reduceIte, Nat.reduceAdd, Nat.reduceLeDiff, u1, u2, u3, u5, u6, hself]); (try with_reducible rfl); done)); (focus (simp (disch := omega) only [SO, Bool.and_self, one_encV, one_encVV, u1, u2, u3, u5, u6, hself]))) | (apply e_st; (focus (first | rfl | (simp (disch := omega) only [dm2, oldP, newP, simB0, simB1, SA, SV, SN, SR, SL, pick_bool, Nat.reduceEqDiff, ↓reduceIte, Nat.reduceAdd, Nat.reduceLeDiff, decide_eq_true_eq]; first | done | omega))); (focus ((try simp (disch := omega) only [simB2, simB1, SA, SV, SN, SR, SL, pick_bool, Nat.reduceEqDiff, ↓reduceIte, Nat.reduceAdd, Nat.reduceLeDiff, u1, u2, u3, u5, u6, hself]); (try with_reducible rfl); done)); (focus ((try simp (disch := omega) only [simB2, simB1, SA, SV, SN, SR, SL, pick_bool, Nat.reduceEqDiff, ↓reduceIte, Nat.reduceAdd, Nat.reduceLeDiff, u1, u2, u3, u5, u6, hself]); (try with_reducible rfl); done)); (focus ((try simp (disch := omega) only [simB2, simB1, SA, SV, SN, SR, SL, pick_bool, Nat.reduceEqDiff, ↓reduceIte, Nat.reduceAdd, Nat.reduceLeDiff, u1, u2, u3, u5, u6, hself]); (try with_reducible rfl); done)); (focus ((try simp (disch := omega) only [simB2, simB1, SA, SV, SN, SR, SL, pick_bool, Nat.reduceEqDiff, ↓reduceIte, Nat.reduceAdd, Nat.reduceLeDiff, u1, u2, u3, u5, u6, hself]); (try with_reducible rfl); done)); (focus (simp (disch := omega) only [SO, Bool.and_self, one_encV, one_encVV, u1, u2, u3, u5, u6, hself])); (focus ((try simp (disch := omega) only [SL, Nat.reduceAdd, Nat.reduceMul, List.length_map]); first | done | omega)); (focus ((try simp (disch := omega) only [SL, Nat.reduceAdd, Nat.reduceMul, List.length_map]); first | done | omega)); (focus ((try simp (disch := omega) only [SL, Nat.reduceAdd, Nat.reduceMul, List.length_map]); first | done | omega))))
          have hC : ∃ C : Hp, C = hupd (hupd B (a + 1) [AV.esl, AV.esl, AV.esl]) (a + 1) (lput [AV.esl, AV.esl, AV.esl] 0 [encV vec, .esl, .esl]) := ⟨_, rfl⟩
          obtain ⟨C, hC⟩ := hC
          have hCf : ∀ x, x ≠ a + 1 → C x = B x := fun x hx => by rw [hC, hupd_ne hx, hupd_ne hx]
          have hCs : C (a + 1) = some [encV vec, .esl, .esl] := by rw [hC, hupd_self']; rfl
          have d0 := (hCf 0 (by omega)).trans b0
          have hpa : ∀ j, ((every k.n k.outs).take (j + 1)) = (every k.n k.outs).take j ++ (if j < (every k.n k.outs).length then [(every k.n k.outs).getD j []] else []) := by
            intro j
            by_cases hj : j < (every k.n k.outs).length
            · rw [if_pos hj]; exact take_succ' hj
            · rw [if_neg hj, List.take_of_length_le (by omega), List.take_of_length_le (by omega), List.append_nil]
          refine w_seqC (fun T' H' nx' => T' 5 = .ptr 3 4 0 ∧ T' 7 = .ptr (a + 1) 3 0 ∧ InI k A a vec (caseOf k vec).out (caseOf k vec).calm H' nx') ?_ ?_
          rotate_left
          · clear u1 u2 u3 u5 u6
            rintro T2 D d ⟨u5, u7, r1, r2, r3, so, sc, r4, r5, r6, r7, r8, r9, r10, r11⟩
            have hB : ∃ B : Nat → Bool, B = fun b => decide (rowB so = some b) || decide (rowB sc = some b) := ⟨_, rfl⟩
            obtain ⟨B1, hB⟩ := hB
            have hBs : ∀ x, x < a + 4 → B1 x = false := fun x hx => by
              rw [hB, Bool.or_eq_false_iff]
              exact ⟨decide_eq_false (fun h => by have := r7 x h; omega), decide_eq_false (fun h => by have := r8 x h; omega)⟩
            have hk5 := (Row_keep (B := B1) r5 (fun b h => by rw [hB]; simp [h])).snapV
            have hk6 := (Row_keep (B := B1) r6 (fun b h => by rw [hB]; simp [h])).snapV
            have hfz := Fz.put (hBs (a + 1) (by omega)) r4 (CellsTo.cons (.inl rfl) (CellsTo.cons (.inr hk5) (CellsTo.cons (.inr hk6) CellsTo.nil)))
            have hE : ∃ E : Hp, E = hupd (hdrop B1 D) (a + 1) [encV vec, encVV (caseOf k vec).out, encVV (caseOf k vec).calm] := ⟨_, rfl⟩
            obtain ⟨E, hE⟩ := hE
            have hE1 : E (a + 1) = some [encV vec, encVV (caseOf k vec).out, encVV (caseOf k vec).calm] := by rw [hE, hupd_self']
            have hEf : ∀ x, x < a → x ≠ 4 → E x = A x := fun x hx h4 => by rw [hE, hupd_ne (by omega), hdrop_at (hBs x (by omega)), r2 x hx h4]
            have hE3 := (hEf 3 (by omega) (by omega)).trans i3
            rw [← hE] at hfz
            refine w_ops0F _ _ [(5, .ptr 3 4 0), (7, .ptr (a + 1) 3 0)] hfz ⟨.inl u5, .inl u7, trivial⟩ ?_
            obtain ⟨s1, s2⟩ := ir.one
            repeat' (first | (apply o_val rfl; (focus (first | rfl | (simp (disch := omega) only [dm2, oldP, newP, simB0, simB1, SA, SV, SN, SR, SL, pick_bool, Nat.reduceEqDiff, ↓reduceIte, Nat.reduceAdd, Nat.reduceLeDiff, decide_eq_true_eq]; first | done | omega))); (focus ((try simp (disch := omega) only [simB2, simB1, SA, SV, SN, SR, SL, pick_bool, Nat.reduceEqDiff, ↓reduceIte, Nat.reduceAdd, Nat.reduceLeDiff, SO, one_encV, one_encVV, Bool.and_self, Bool.false_eq_true, reduceCtorEq, wrap64, aixS_encV, aixS_encVV, alenS_encV, alenS_encVV, Int.toNat_natCast, List.length_map, aixS_msl, getElem?_map_lt, Nat.mul_one, hE3, hE1]); first | with_reducible rfl | (apply s_ite; (focus omega); with_reducible rfl)))) | (apply e_bld rfl; (focus (exact Nat.succ_ne_zero _)); (focus ((try simp (disch := omega) only [simB2, simB1, SA, SV, SN, SR, SL, pick_bool, Nat.reduceEqDiff, ↓reduceIte, Nat.reduceAdd, Nat.reduceLeDiff, hE3, hE1]); (try with_reducible rfl); done)); (focus ((try simp (disch := omega) only [simB2, simB1, SA, SV, SN, SR, SL, pick_bool, Nat.reduceEqDiff, ↓reduceIte, Nat.reduceAdd, Nat.reduceLeDiff, SO, Bool.and_self, one_encV, one_encVV, hE3, hE1]); (try with_reducible rfl); done))))
            have hfl := (flatMap_cells_get ((casesOf k ((every k.n k.ins).take i)).map encC) (hlc _)).1
            rw [List.length_map] at hfl
            have := hmany i
            refine e_row rfl (by ((try simp only [simB0, simB1, SA, SV, SN, SR, SL, pick_bool, Nat.reduceEqDiff, ↓reduceIte, Nat.reduceAdd, Nat.reduceLeDiff]); (try with_reducible rfl))) (ir.same fun b hb => ?_) (by ((try simp only [simB0, simB1, SA, SV, SN, SR, SL, pick_bool, Nat.reduceEqDiff, ↓reduceIte, Nat.reduceAdd, Nat.reduceLeDiff]); (try with_reducible rfl))) asrc_three rfl rfl (by omega) (by rw [hfl]; omega) (by rw [hfl]; omega) ?_
            · have := ib b hb
              rw [hupd_ne (by omega), hEf b (by omega) (by omega)]
            rintro s3 F f hrow hle1 hle2 hsame hb2
            obtain ⟨s31, s32⟩ := hrow.one
            have hsame' : ∀ i, i < a → i ≠ 4 → rowB s ≠ some i → F i = A i := fun i h1 h2 h3 => by
              rw [hsame i (by omega) h3, hupd_ne (by omega), hEf i h1 h2]
            have hF : ∀ i, i < 6 → i ≠ 4 → F i = A i := fun i h1 h2 => hsame' i (by omega) h2 (fun h => by have := ib i h; omega)
            have hF3 := (hF 3 (by omega) (by omega)).trans i3
            repeat' (first | refine a_n ?_ | refine o_nil ?_ | (apply o_val rfl; (focus (first | rfl | (simp (disch := omega) only [dm2, oldP, newP, simB0, simB1, SA, SV, SN, SR, SL, pick_bool, Nat.reduceEqDiff, ↓reduceIte, Nat.reduceAdd, Nat.reduceLeDiff, decide_eq_true_eq]; first | done | omega))); (focus ((try simp (disch := omega) only [simB2, simB1, SA, SV, SN, SR, SL, pick_bool, Nat.reduceEqDiff, ↓reduceIte, Nat.reduceAdd, Nat.reduceLeDiff, SO, one_encV, one_encVV, Bool.and_self, Bool.false_eq_true, reduceCtorEq, wrap64, aixS_encV, aixS_encVV, alenS_encV, alenS_encVV, Int.toNat_natCast, List.length_map, aixS_msl, getElem?_map_lt, Nat.mul_one, hF3, s31, s32]); first | with_reducible rfl | (apply s_ite; (focus omega); with_reducible rfl)))) | (apply e_st; (focus (first | rfl | (simp (disch := omega) only [dm2, oldP, newP, simB0, simB1, SA, SV, SN, SR, SL, pick_bool, Nat.reduceEqDiff, ↓reduceIte, Nat.reduceAdd, Nat.reduceLeDiff, decide_eq_true_eq]; first | done | omega))); (focus ((try simp (disch := omega) only [simB2, simB1, SA, SV, SN, SR, SL, pick_bool, Nat.reduceEqDiff, ↓reduceIte, Nat.reduceAdd, Nat.reduceLeDiff, hF3, s31, s32]); (try with_reducible rfl); done)); (focus ((try simp (disch := omega) only [simB2, simB1, SA, SV, SN, SR, SL, pick_bool, Nat.reduceEqDiff, ↓reduceIte, Nat.reduceAdd, Nat.reduceLeDiff, hF3, s31, s32]); (try with_reducible rfl); done)); (focus ((try simp (disch := omega) only [simB2, simB1, SA, SV, SN, SR, SL, pick_bool, Nat.reduceEqDiff, ↓reduceIte, Nat.reduceAdd, Nat.reduceLeDiff, hF3, s31, s32]); (try with_reducible rfl); done)); (focus ((try simp (disch := omega) only [simB2, simB1, SA, SV, SN, SR, SL, pick_bool, Nat.reduceEqDiff, ↓reduceIte, Nat.reduceAdd, Nat.reduceLeDiff, hF3, s31, s32]); (try with_reducible rfl); done)); (focus (simp (disch := omega) only [SO, Bool.and_self, one_encV, one_encVV, hF3, s31, s32])); (focus ((try simp (disch := omega) only [SL, Nat.reduceAdd, Nat.reduceMul, List.length_map]); first | done | omega)); (focus ((try simp (disch := omega) only [SL, Nat.reduceAdd, Nat.reduceMul, List.length_map]); first | done | omega)); (focus ((try simp (disch := omega) only [SL, Nat.reduceAdd, Nat.reduceMul, List.length_map]); first | done | omega))))
            rw [hLi, hpc, if_pos rfl]
            refine .inl ⟨rfl, ⟨⟨by omega, ?_, ?_, ?_, s3, ?_, ?_, ?_, ?_⟩, hupd_self'⟩, by omega, by omega, ?_⟩
            · rw [hupd_ne (by omega), hupd_ne (by omega), hF 0 (by omega) (by omega), i0]
            · rw [hupd_ne (by omega), hupd_ne (by omega), hF 1 (by omega) (by omega), i1]
            · rw [hupd_ne (by omega), hupd_ne (by omega), hF 2 (by omega) (by omega), i2]
            · rw [hupd_ne (by omega), hupd_self']; rfl
            · rw [List.map_append, List.flatMap_append]
              refine hrow.same fun b hb => ?_
              rcases hb2 b hb with h | h
              · have := ib b h
                rw [hupd_ne (by omega), hupd_ne (by omega)]
              · rw [hupd_ne (by omega), hupd_ne (by omega)]
            · intro b hb
              rcases hb2 b hb with h | h
              · have := ib b h; omega
              · omega
            · intro c hc
              rw [List.mem_append, List.mem_singleton] at hc
              rcases hc with hc | rfl
              · exact ic c hc
              · exact r10
            · rw [hupd_ne (by omega), hupd_ne (by omega), hF 5 (by omega) (by omega)]
          rw [← hC]
          refine w_seq ?_
          repeat' (first | refine w_ops0 ?_ | refine a_n ?_ | refine o_nil ?_ | (apply o_val rfl; (focus (first | rfl | (simp (disch := omega) only [dm2, oldP, newP, simB0, simB1, SA, SV, SN, SR, SL, pick_bool, Nat.reduceEqDiff, ↓reduceIte, Nat.reduceAdd, Nat.reduceLeDiff, decide_eq_true_eq]; first | done | omega))); (focus ((try simp (disch := omega) only [simB2, simB1, SA, SV, SN, SR, SL, pick_bool, Nat.reduceEqDiff, ↓reduceIte, Nat.reduceAdd, Nat.reduceLeDiff, SO, one_encV, one_encVV, Bool.and_self, Bool.false_eq_true, reduceCtorEq, wrap64, aixS_encV, aixS_encVV, alenS_encV, alenS_encVV, Int.toNat_natCast, List.length_map, aixS_msl, getElem?_map_lt, Nat.mul_one, u1, u2, u3, u5, u6, d0]); first | with_reducible rfl | (apply s_ite; (focus omega); with_reducible rfl)))) | (apply o_callD; (focus ((try simp (disch := omega) only [simB2, simB1, SA, SV, SN, SR, SL, pick_bool, Nat.reduceEqDiff, ↓reduceIte, Nat.reduceAdd, Nat.reduceLeDiff, u1, u2, u3, u5, u6, d0]); (try with_reducible rfl); done)); (focus ((try simp (disch := omega) only [simB2, simB1, SA, SV, SN, SR, SL, pick_bool, Nat.reduceEqDiff, ↓reduceIte, Nat.reduceAdd, Nat.reduceLeDiff, u1, u2, u3, u5, u6, d0]); (try with_reducible rfl); done)); (focus (first | (exact each_c _ _))); (focus (first | (apply snap_data; repeat' (first | exact snapL_nil | apply snapL_dat | exact Dat.int | exact Dat.bool | exact Dat.str | exact Dat.esl | exact Dat.nilf | exact encV_dat _ | exact encVV_dat _)) | (apply snap_plain; (focus (repeat' (first | exact snapL_nil | apply snapL_dat | exact Dat.int | exact Dat.bool | exact Dat.str | exact encV_dat _ | exact encVV_dat _))); rfl)))))
          refine w_block ?_
          refine w_rangeFb (a + 2) (a + 3) (by omega) rfl (by ((try simp only [simB0, simB1, SA, SV, SN, SR, SL, pick_bool, Nat.reduceEqDiff, ↓reduceIte, Nat.reduceAdd, Nat.reduceLeDiff]); (try with_reducible rfl))) (fun c1 cj1 hy1 => ?_)
          refine Abs.Fn.mono (each_it (by omega) (by omega) (fun j H' nx => InI k A a vec (((every k.n k.outs).take j).filter (k.pa vec)) (((every k.n k.outs).take j).filter fun o => k.pa vec o && k.pm vec o) H' nx ∧ H' (a + 2) = some [c1])
            (fun H' nx => H' (a + 2) = some [cj1 .ret] ∧ H' 1 = some [.int .i64 0, .int .i64 0, .int .i64 0, .esl] ∧ H' 2 = some [.int .i64 17] ∧ 1024 < (caseOf k vec).out.length) ?_ ?_ ?_) ?_
          · rintro j A1 B1 n1 n2 ⟨q1, q2⟩ hn _ hs
            exact ⟨q1.stab hn (fun i hi _ h3 => hs i hi h3), (hs (a + 2) (by have := q1.1; omega) (by omega)).trans q2⟩
          · refine ⟨⟨Nat.le_refl _, fun x hx h4 => ?_, ?_, .esl, .esl, ?_, Row.nil, Row.nil, fun b hb => (by cases hb), fun b hb => (by cases hb), fun b hb => (by cases hb), Nat.zero_le _, Nat.le_refl _⟩, hupd_self'⟩
            · rw [hupd_ne (by omega), hCf x (by omega), hfr x (by omega) h4]
            · rw [hupd_ne (by omega), hCf a (by omega), hself]
            · rw [hupd_ne (by omega), hCs]
          · rintro j D d hj ⟨q1, q2⟩ hd4 hDw
            refine hy1 _ _ _ _ q2 rfl ?_
            clear hy1
            have hmw : (every k.n k.outs).getD j [] ∈ every k.n k.outs := mem_getD (l := every k.n k.outs) hj
            have hwl := every_len k.n k.outs _ hmw
            have htk := hpa j
            rw [if_pos hj] at htk
            generalize (every k.n k.outs).getD j [] = w at hDw hmw hwl htk
            have hsw : Sh w := by show _ ≤ _; omega
            rw [htk]
            simp only [List.filter_append, List.filter_cons, List.filter_nil]
            have hoj : (((every k.n k.outs).take j).filter (k.pa vec) ++ (if k.pa vec w = true then [w] else [])).length ≤ (caseOf k vec).out.length := by
              have : ((every k.n k.outs).take (j + 1)).filter (k.pa vec) = ((every k.n k.outs).take j).filter (k.pa vec) ++ (if k.pa vec w = true then [w] else []) := by
                rw [htk, List.filter_append]; simp only [List.filter_cons, List.filter_nil]
              rw [← this]
              unfold caseOf
              exact cnt_mono (every k.n k.outs) (k.pa vec) (j + 1)
            generalize ((every k.n k.outs).take j).filter (k.pa vec) = outs at q1 hoj
            generalize ((every k.n k.outs).take j).filter (fun o => k.pa vec o && k.pm vec o) = calm at q1
            have hq1 := q1
            obtain ⟨r1, r2, r3, so, sc, r4, r5, r6, r7, r8, r9, r10, r11⟩ := q1
            have e0 := (r2 0 (by omega) (by omega)).trans i0
            have e1 := (r2 1 (by omega) (by omega)).trans i1
            have e2 := (r2 2 (by omega) (by omega)).trans i2
            have e5 := (r2 5 (by omega) (by omega)).trans hA
            rw [← hkc] at e0
            repeat' (first | refine w_ops0 ?_ | refine a_n ?_ | refine o_nil ?_ | (apply o_val rfl rfl; (focus ((try simp (disch := omega) only [simB0, simB1, SA, SV, SN, SR, SL, pick_bool, Nat.reduceEqDiff, ↓reduceIte, Nat.reduceAdd, Nat.reduceLeDiff, SO, one_encV, one_encVV, Bool.and_self, Bool.false_eq_true, reduceCtorEq, wrap64, aixS_encV, aixS_encVV, alenS_encV, alenS_encVV, Int.toNat_natCast, List.length_map, aixS_msl, getElem?_map_lt, Nat.mul_one]); first | with_reducible rfl | (apply s_ite; (focus omega); with_reducible rfl)))))
            refine ⟨q2, ?_⟩
            refine w_block ?_
            refine w_seqC (fun T'' H'' nx => H'' = hdel D (a + 2) ∧ nx = d ∧ T'' 1 = .ptr 0 7 0 ∧ T'' 2 = .ptr 1 4 0 ∧ T'' 3 = .ptr 2 1 0 ∧ T'' 6 = .ptr a 1 0 ∧ T'' 7 = .ptr (a + 1) 3 0 ∧ T'' 8 = .msl (a + 3) k.n 1 0 k.n ∧ k.pa vec w = true) ?_ ?_
            · obtain ⟨g, caps, hge, hcd, hg⟩ := ha.out
              repeat' (first | refine w_seq ?_ | refine w_ops0 ?_ | (apply o_val rfl; (focus (first | rfl | (simp (disch := omega) only [dm2, oldP, newP, simB0, simB1, SA, SV, SN, SR, SL, pick_bool, Nat.reduceEqDiff, ↓reduceIte, Nat.reduceAdd, Nat.reduceLeDiff, decide_eq_true_eq]; first | done | omega))); (focus ((try simp (disch := omega) only [simB2, simB1, SA, SV, SN, SR, SL, pick_bool, Nat.reduceEqDiff, ↓reduceIte, Nat.reduceAdd, Nat.reduceLeDiff, SO, one_encV, one_encVV, Bool.and_self, Bool.false_eq_true, reduceCtorEq, wrap64, aixS_encV, aixS_encVV, alenS_encV, alenS_encVV, Int.toNat_natCast, List.length_map, aixS_msl, getElem?_map_lt, Nat.mul_one, u1, u2, u3, u5, u6, e0, e1, e2, r3, r4, hge]); first | with_reducible rfl | (apply s_ite; (focus omega); with_reducible rfl)))))
              refine o_callP (by ((try simp (disch := omega) only [simB2, simB1, SA, SV, SN, SR, SL, pick_bool, Nat.reduceEqDiff, ↓reduceIte, Nat.reduceAdd, Nat.reduceLeDiff, hge]); (try with_reducible rfl))) (by ((try simp only [simB0, simB1, SA, SV, SN, SR, SL, pick_bool, Nat.reduceEqDiff, ↓reduceIte, Nat.reduceAdd, Nat.reduceLeDiff]); (try with_reducible rfl))) (hg _ hmem _ hmw) (snap_plain (snapL_cons (snap_row ((hdel_ne (by omega)).trans e5) rfl hvl) (snapL_cons (snap_row ((hdel_ne (by omega)).trans hDw) rfl hwl) (snapL_datL hcd))) rfl) ?_
              repeat' (first | refine w_skip ?_ | refine w_exit ?_ | refine a_n ?_ | refine a_x ?_ | refine o_nil ?_ | (apply o_val rfl; (focus (first | rfl | (simp (disch := omega) only [dm2, oldP, newP, simB0, simB1, SA, SV, SN, SR, SL, pick_bool, Nat.reduceEqDiff, ↓reduceIte, Nat.reduceAdd, Nat.reduceLeDiff, decide_eq_true_eq]; first | done | omega))); (focus ((try simp (disch := omega) only [simB2, simB1, SA, SV, SN, SR, SL, pick_bool, Nat.reduceEqDiff, ↓reduceIte, Nat.reduceAdd, Nat.reduceLeDiff, SO, one_encV, one_encVV, Bool.and_self, Bool.false_eq_true, reduceCtorEq, wrap64, aixS_encV, aixS_encVV, alenS_encV, alenS_encVV, Int.toNat_natCast, List.length_map, aixS_msl, getElem?_map_lt, Nat.mul_one, u1, u2, u3, u5, u6, e0, e1, e2, r3, r4, hge]); first | with_reducible rfl | (apply s_ite; (focus omega); with_reducible rfl)))) | (apply w_cond; (focus ((try simp (disch := omega) only [simB2, simB1, SA, SV, SN, SR, SL, pick_bool, Nat.reduceEqDiff, ↓reduceIte, Nat.reduceAdd, Nat.reduceLeDiff, u1, u2, u3, u5, u6, e0, e1, e2, r3, r4, hge]); (try with_reducible rfl); done)); all_goals (intro _hg; (try simp (disch := omega) only [Bool.not_eq_true', Bool.not_eq_false', Bool.not_not, decide_eq_true_eq, decide_eq_false_iff_not] at _hg); try (exfalso; omega))))
              · refine .inl ⟨trivial, ⟨?_, hupd_self'⟩, by omega, Nat.le_refl _, (hupd_ne (by omega)).trans (hdel_ne (by omega))⟩
                simp only [_hg, Bool.false_and, Bool.false_eq_true, if_false, List.append_nil]
                exact hq1.stab (Nat.le_refl _) (fun x hx h2 h3 => (hupd_ne h2).trans (hdel_ne h2))
              · exact ⟨rfl, rfl, u1, u2, u3, u6, rfl, rfl, _hg⟩
            · rintro T2 _ d ⟨rfl, rfl, v1, v2, v3, v6, v7, v8, hpw⟩
              simp only [hpw, if_true, Bool.true_and] at hoj ⊢
              have hlen := Row.lenS (n := outs.length) r5 (by simp) Nat.one_pos
              obtain ⟨so1, so2⟩ := r5.one
              obtain ⟨sc1, sc2⟩ := r6.one
              refine w_seqC (fun T'' H'' nx => H'' = hdel D (a + 2) ∧ nx = d ∧ T'' 1 = .ptr 0 7 0 ∧ T'' 6 = .ptr a 1 0 ∧ T'' 7 = .ptr (a + 1) 3 0 ∧ T'' 8 = .msl (a + 3) k.n 1 0 k.n ∧ outs.length < 1024) ?_ ?_
              · repeat' (first | refine w_seq ?_ | refine w_ops0 ?_ | refine w_skip ?_ | refine w_ret ?_ | refine a_n ?_ | refine a_r ?_ | refine o_nil ?_ | (apply o_val rfl; (focus (first | rfl | (simp (disch := omega) only [dm2, oldP, newP, simB0, simB1, SA, SV, SN, SR, SL, pick_bool, Nat.reduceEqDiff, ↓reduceIte, Nat.reduceAdd, Nat.reduceLeDiff, decide_eq_true_eq]; first | done | omega))); (focus ((try simp (disch := omega) only [simB2, simB1, SA, SV, SN, SR, SL, pick_bool, Nat.reduceEqDiff, ↓reduceIte, Nat.reduceAdd, Nat.reduceLeDiff, SO, one_encV, one_encVV, Bool.and_self, Bool.false_eq_true, reduceCtorEq, wrap64, aixS_encV, aixS_encVV, alenS_encV, alenS_encVV, Int.toNat_natCast, List.length_map, aixS_msl, getElem?_map_lt, Nat.mul_one, v1, v2, v3, v6, v7, v8, e0, e1, e2, r3, r4, hlen]); first | with_reducible rfl | (apply s_ite; (focus omega); with_reducible rfl)))) | (apply e_st; (focus (first | rfl | (simp (disch := omega) only [dm2, oldP, newP, simB0, simB1, SA, SV, SN, SR, SL, pick_bool, Nat.reduceEqDiff, ↓reduceIte, Nat.reduceAdd, Nat.reduceLeDiff, decide_eq_true_eq]; first | done | omega))); (focus ((try simp (disch := omega) only [simB2, simB1, SA, SV, SN, SR, SL, pick_bool, Nat.reduceEqDiff, ↓reduceIte, Nat.reduceAdd, Nat.reduceLeDiff, v1, v2, v3, v6, v7, v8, e0, e1, e2, r3, r4, hlen]); (try with_reducible rfl); done)); (focus ((try simp (disch := omega) only [simB2, simB1, SA, SV, SN, SR, SL, pick_bool, Nat.reduceEqDiff, ↓reduceIte, Nat.reduceAdd, Nat.reduceLeDiff, v1, v2, v3, v6, v7, v8, e0, e1, e2, r3, r4, hlen]); (try with_reducible rfl); done)); (focus ((try simp (disch := omega) only [simB2, simB1, SA, SV, SN, SR, SL, pick_bool, Nat.reduceEqDiff, ↓reduceIte, Nat.reduceAdd, Nat.reduceLeDiff, v1, v2, v3, v6, v7, v8, e0, e1, e2, r3, r4, hlen]); (try with_reducible rfl); done)); (focus ((try simp (disch := omega) only [simB2, simB1, SA, SV, SN, SR, SL, pick_bool, Nat.reduceEqDiff, ↓reduceIte, Nat.reduceAdd, Nat.reduceLeDiff, v1, v2, v3, v6, v7, v8, e0, e1, e2, r3, r4, hlen]); (try with_reducible rfl); done)); (focus (simp (disch := omega) only [SO, Bool.and_self, one_encV, one_encVV, v1, v2, v3, v6, v7, v8, e0, e1, e2, r3, r4, hlen])); (focus ((try simp (disch := omega) only [SL, Nat.reduceAdd, Nat.reduceMul, List.length_map]); first | done | omega)); (focus ((try simp (disch := omega) only [SL, Nat.reduceAdd, Nat.reduceMul, List.length_map]); first | done | omega)); (focus ((try simp (disch := omega) only [SL, Nat.reduceAdd, Nat.reduceMul, List.length_map]); first | done | omega))) | (apply w_cond; (focus ((try simp (disch := omega) only [simB2, simB1, SA, SV, SN, SR, SL, pick_bool, Nat.reduceEqDiff, ↓reduceIte, Nat.reduceAdd, Nat.reduceLeDiff, v1, v2, v3, v6, v7, v8, e0, e1, e2, r3, r4, hlen]); (try with_reducible rfl); done)); all_goals (intro _hg; (try simp (disch := omega) only [Bool.not_eq_true', Bool.not_eq_false', Bool.not_not, decide_eq_true_eq, decide_eq_false_iff_not] at _hg); try (exfalso; omega))))
                · refine .inr ⟨trivial, hupd_self', ?_, ?_, by simp at hoj; omega⟩
                  · rw [hupd_ne (by omega), hupd_ne (by omega), hupd_self']; rfl
                  · rw [hupd_ne (by omega), hupd_self']; rfl
                · exact ⟨rfl, rfl, v1, v6, v7, v8, by omega⟩
              · rintro T3 _ d ⟨rfl, rfl, x1, x6, x7, x8, hlt⟩
                clear v1 v2 v3 v6 v7 v8
                refine w_seqC (fun T'' H'' nx => T'' 1 = .ptr 0 7 0 ∧ T'' 6 = .ptr a 1 0 ∧ T'' 7 = .ptr (a + 1) 3 0 ∧ T'' 8 = .msl (a + 3) k.n 1 0 k.n ∧ d ≤ nx ∧ H'' (a + 3) = D (a + 3) ∧ InI k A a vec (outs ++ [w]) calm (hupd H'' (a + 2) [c1]) nx) ?_ ?_
                · repeat' (first | refine w_ops1 ?_ | (apply o_val rfl; (focus (first | rfl | (simp (disch := omega) only [dm2, oldP, newP, simB0, simB1, SA, SV, SN, SR, SL, pick_bool, Nat.reduceEqDiff, ↓reduceIte, Nat.reduceAdd, Nat.reduceLeDiff, decide_eq_true_eq]; first | done | omega))); (focus ((try simp (disch := omega) only [simB2, simB1, SA, SV, SN, SR, SL, pick_bool, Nat.reduceEqDiff, ↓reduceIte, Nat.reduceAdd, Nat.reduceLeDiff, SO, one_encV, one_encVV, Bool.and_self, Bool.false_eq_true, reduceCtorEq, wrap64, aixS_encV, aixS_encVV, alenS_encV, alenS_encVV, Int.toNat_natCast, List.length_map, aixS_msl, getElem?_map_lt, Nat.mul_one, x1, x6, x7, x8, r4]); first | with_reducible rfl | (apply s_ite; (focus omega); with_reducible rfl)))))
                  refine o_callF (by ((try simp only [simB0, simB1, SA, SV, SN, SR, SL, pick_bool, Nat.reduceEqDiff, ↓reduceIte, Nat.reduceAdd, Nat.reduceLeDiff]); (try with_reducible rfl))) (by ((try simp only [simB0, simB1, SA, SV, SN, SR, SL, pick_bool, Nat.reduceEqDiff, ↓reduceIte, Nat.reduceAdd, Nat.reduceLeDiff]); (try with_reducible rfl))) (cloneF_c w hsw) (snapL_cons (snap_row ((hdel_ne (by omega)).trans hDw) rfl hwl) snapL_nil) ?_
                  repeat' (first | (apply e_bld rfl; (focus (exact Nat.succ_ne_zero _)); (focus ((try simp (disch := omega) only [simB2, simB1, SA, SV, SN, SR, SL, pick_bool, Nat.reduceEqDiff, ↓reduceIte, Nat.reduceAdd, Nat.reduceLeDiff, x1, x6, x7, x8, r4]); (try with_reducible rfl); done)); (focus ((try simp (disch := omega) only [simB2, simB1, SA, SV, SN, SR, SL, pick_bool, Nat.reduceEqDiff, ↓reduceIte, Nat.reduceAdd, Nat.reduceLeDiff, SO, Bool.and_self, one_encV, one_encVV, x1, x6, x7, x8, r4]); (try with_reducible rfl); done))))
                  refine e_row rfl (by ((try simp only [simB0, simB1, SA, SV, SN, SR, SL, pick_bool, Nat.reduceEqDiff, ↓reduceIte, Nat.reduceAdd, Nat.reduceLeDiff]); (try with_reducible rfl))) (r5.same fun b hb => ?_) (by ((try simp only [simB0, simB1, SA, SV, SN, SR, SL, pick_bool, Nat.reduceEqDiff, ↓reduceIte, Nat.reduceAdd, Nat.reduceLeDiff]); (try with_reducible rfl))) asrc_one rfl rfl Nat.one_pos (by simp; omega) (by simp; omega) ?_
                  · have := r7 b hb
                    rw [hupd_ne (by omega), hdel_ne (by omega)]
                  rintro s2 E e hrow hle1 hle2 hsame hb2
                  obtain ⟨s21, s22⟩ := hrow.one
                  have hsame' : ∀ i, i < d → i ≠ a + 2 → rowB so ≠ some i → E i = D i := fun i h1 h2 h3 => by
                    rw [hsame i (by omega) h3, hupd_ne (by omega), hdel_ne (by omega)]
                  have hE1 : E (a + 1) = some [encV vec, so, sc] := by
                    rw [hsame' (a + 1) (by omega) (by omega) (fun h => by have := r7 _ h; omega), r4]
                  repeat' (first | refine a_n ?_ | refine o_nil ?_ | (apply o_val rfl; (focus (first | rfl | (simp (disch := omega) only [dm2, oldP, newP, simB0, simB1, SA, SV, SN, SR, SL, pick_bool, Nat.reduceEqDiff, ↓reduceIte, Nat.reduceAdd, Nat.reduceLeDiff, decide_eq_true_eq]; first | done | omega))); (focus ((try simp (disch := omega) only [simB2, simB1, SA, SV, SN, SR, SL, pick_bool, Nat.reduceEqDiff, ↓reduceIte, Nat.reduceAdd, Nat.reduceLeDiff, SO, one_encV, one_encVV, Bool.and_self, Bool.false_eq_true, reduceCtorEq, wrap64, aixS_encV, aixS_encVV, alenS_encV, alenS_encVV, Int.toNat_natCast, List.length_map, aixS_msl, getElem?_map_lt, Nat.mul_one, x1, x6, x7, x8, r4, hE1, so2, sc2, s21, s22]); first | with_reducible rfl | (apply s_ite; (focus omega); with_reducible rfl)))) | (apply e_st; (focus (first | rfl | (simp (disch := omega) only [dm2, oldP, newP, simB0, simB1, SA, SV, SN, SR, SL, pick_bool, Nat.reduceEqDiff, ↓reduceIte, Nat.reduceAdd, Nat.reduceLeDiff, decide_eq_true_eq]; first | done | omega))); (focus ((try simp (disch := omega) only [simB2, simB1, SA, SV, SN, SR, SL, pick_bool, Nat.reduceEqDiff, ↓reduceIte, Nat.reduceAdd, Nat.reduceLeDiff, x1, x6, x7, x8, r4, hE1, so2, sc2, s21, s22]); (try with_reducible rfl); done)); (focus ((try simp (disch := omega) only [simB2, simB1, SA, SV, SN, SR, SL, pick_bool, Nat.reduceEqDiff, ↓reduceIte, Nat.reduceAdd, Nat.reduceLeDiff, x1, x6, x7, x8, r4, hE1, so2, sc2, s21, s22]); (try with_reducible rfl); done)); (focus ((try simp (disch := omega) only [simB2, simB1, SA, SV, SN, SR, SL, pick_bool, Nat.reduceEqDiff, ↓reduceIte, Nat.reduceAdd, Nat.reduceLeDiff, x1, x6, x7, x8, r4, hE1, so2, sc2, s21, s22]); (try with_reducible rfl); done)); (focus ((try simp (disch := omega) only [simB2, simB1, SA, SV, SN, SR, SL, pick_bool, Nat.reduceEqDiff, ↓reduceIte, Nat.reduceAdd, Nat.reduceLeDiff, x1, x6, x7, x8, r4, hE1, so2, sc2, s21, s22]); (try with_reducible rfl); done)); (focus (simp (disch := omega) only [SO, Bool.and_self, one_encV, one_encVV, x1, x6, x7, x8, r4, hE1, so2, sc2, s21, s22])); (focus ((try simp (disch := omega) only [SL, Nat.reduceAdd, Nat.reduceMul, List.length_map]); first | done | omega)); (focus ((try simp (disch := omega) only [SL, Nat.reduceAdd, Nat.reduceMul, List.length_map]); first | done | omega)); (focus ((try simp (disch := omega) only [SL, Nat.reduceAdd, Nat.reduceMul, List.length_map]); first | done | omega))))
                  obtain ⟨z1, z2⟩ := InI.put1 (vec := vec) (c1 := c1) (e := e) hd4 r2 r3 r6 r7 r8 r9 hlt r11 hrow (by omega) hsame' (fun b h => (hb2 b h).imp id (fun h => by omega))
                  exact ⟨x1, x6, x7, x8, by omega, (hupd_ne (by omega)).trans z2, z1⟩
                · rintro T4 E e ⟨y1, y6, y7, y8, hde, hE3, q1⟩
                  have r12 := r11
                  clear x1 x6 x7 x8 r3 r4 r5 r6 r7 r8 r9 r10 r11 so1 so2 sc1 sc2 hlen hq1 hoj
                  have p0 : E 0 = A 0 := by have := q1.2.1 0 (by omega) (by omega); rwa [hupd_ne (by omega)] at this
                  rw [i0, ← hkc] at p0
                  have p5 : E 5 = A 5 := by have := q1.2.1 5 (by omega) (by omega); rwa [hupd_ne (by omega)] at this
                  rw [hA] at p5
                  have hq1 := q1
                  have q1 := hq1
                  obtain ⟨r1, r2, r3, so, sc, r4, r5, r6, r7, r8, r9, r10, r11⟩ := q1
                  have q1 := hq1
                  rw [hupd_ne (by omega)] at r3 r4
                  rcases hm with ⟨rfl, hm⟩ | hm
                  · repeat' (first | refine w_seq ?_ | refine w_ops0 ?_ | refine w_skip ?_ | refine a_n ?_ | refine o_nil ?_ | (apply o_val rfl; (focus (first | rfl | (simp (disch := omega) only [dm2, oldP, newP, simB0, simB1, SA, SV, SN, SR, SL, pick_bool, Nat.reduceEqDiff, ↓reduceIte, Nat.reduceAdd, Nat.reduceLeDiff, decide_eq_true_eq]; first | done | omega))); (focus ((try simp (disch := omega) only [simB2, simB1, SA, SV, SN, SR, SL, pick_bool, Nat.reduceEqDiff, ↓reduceIte, Nat.reduceAdd, Nat.reduceLeDiff, SO, one_encV, one_encVV, Bool.and_self, Bool.false_eq_true, reduceCtorEq, wrap64, aixS_encV, aixS_encVV, alenS_encV, alenS_encVV, Int.toNat_natCast, List.length_map, aixS_msl, getElem?_map_lt, Nat.mul_one, y1, y6, y7, y8, r3, r4, p0]); first | with_reducible rfl | (apply s_ite; (focus omega); with_reducible rfl)))) | (apply o_gF; (focus (simp (disch := omega) only [simB2, simB1, SA, SV, SN, SR, SL, pick_bool, Nat.reduceEqDiff, ↓reduceIte, Nat.reduceAdd, Nat.reduceLeDiff, or_true, true_or, y1, y6, y7, y8, r3, r4, p0]; done))) | (apply w_condF; (focus (simp (disch := omega) only [simB2, simB1, SA, SV, SN, SR, SL, pick_bool, Nat.reduceEqDiff, ↓reduceIte, Nat.reduceAdd, Nat.reduceLeDiff, y1, y6, y7, y8, r3, r4, p0]; done))))
                    refine .inl ⟨trivial, ⟨?_, hupd_self'⟩, by omega, hde, (hupd_ne (by omega)).trans hE3⟩
                    simp only [hm, Bool.false_eq_true, if_false, List.append_nil]
                    exact hq1
                  · obtain ⟨g, caps, hge, hcd, hg⟩ := hm.out
                    repeat' (first | refine w_seq ?_ | refine w_ops0 ?_ | (apply o_val rfl; (focus (first | rfl | (simp (disch := omega) only [dm2, oldP, newP, simB0, simB1, SA, SV, SN, SR, SL, pick_bool, Nat.reduceEqDiff, ↓reduceIte, Nat.reduceAdd, Nat.reduceLeDiff, decide_eq_true_eq]; first | done | omega))); (focus ((try simp (disch := omega) only [simB2, simB1, SA, SV, SN, SR, SL, pick_bool, Nat.reduceEqDiff, ↓reduceIte, Nat.reduceAdd, Nat.reduceLeDiff, SO, one_encV, one_encVV, Bool.and_self, Bool.false_eq_true, reduceCtorEq, wrap64, aixS_encV, aixS_encVV, alenS_encV, alenS_encVV, Int.toNat_natCast, List.length_map, aixS_msl, getElem?_map_lt, Nat.mul_one, y1, y6, y7, y8, r3, r4, p0, hge]); first | with_reducible rfl | (apply s_ite; (focus omega); with_reducible rfl)))) | (apply o_gT; (focus (simp (disch := omega) only [simB2, simB1, SA, SV, SN, SR, SL, pick_bool, Nat.reduceEqDiff, ↓reduceIte, Nat.reduceAdd, Nat.reduceLeDiff, y1, y6, y7, y8, r3, r4, p0, hge]; done))))
                    refine o_callP (by ((try simp (disch := omega) only [simB2, simB1, SA, SV, SN, SR, SL, pick_bool, Nat.reduceEqDiff, ↓reduceIte, Nat.reduceAdd, Nat.reduceLeDiff, hge]); (try with_reducible rfl))) (by ((try simp only [simB0, simB1, SA, SV, SN, SR, SL, pick_bool, Nat.reduceEqDiff, ↓reduceIte, Nat.reduceAdd, Nat.reduceLeDiff]); (try with_reducible rfl))) (hg _ hmem _ hmw) (snap_plain (snapL_cons (snap_row p5 rfl hvl) (snapL_cons (snap_row (hE3.trans hDw) rfl hwl) (snapL_datL hcd))) rfl) ?_
                    repeat' (first | refine w_ops1 ?_ | refine w_skip ?_ | refine a_n ?_ | refine o_nil ?_ | (apply o_val rfl; (focus (first | rfl | (simp (disch := omega) only [dm2, oldP, newP, simB0, simB1, SA, SV, SN, SR, SL, pick_bool, Nat.reduceEqDiff, ↓reduceIte, Nat.reduceAdd, Nat.reduceLeDiff, decide_eq_true_eq]; first | done | omega))); (focus ((try simp (disch := omega) only [simB2, simB1, SA, SV, SN, SR, SL, pick_bool, Nat.reduceEqDiff, ↓reduceIte, Nat.reduceAdd, Nat.reduceLeDiff, SO, one_encV, one_encVV, Bool.and_self, Bool.false_eq_true, reduceCtorEq, wrap64, aixS_encV, aixS_encVV, alenS_encV, alenS_encVV, Int.toNat_natCast, List.length_map, aixS_msl, getElem?_map_lt, Nat.mul_one, y1, y6, y7, y8, r3, r4, p0, hge]); first | with_reducible rfl | (apply s_ite; (focus omega); with_reducible rfl)))) | (apply w_cond; (focus ((try simp (disch := omega) only [simB2, simB1, SA, SV, SN, SR, SL, pick_bool, Nat.reduceEqDiff, ↓reduceIte, Nat.reduceAdd, Nat.reduceLeDiff, y1, y6, y7, y8, r3, r4, p0, hge]); (try with_reducible rfl); done)); all_goals (intro _hg; (try simp (disch := omega) only [Bool.not_eq_true', Bool.not_eq_false', Bool.not_not, decide_eq_true_eq, decide_eq_false_iff_not] at _hg); try (exfalso; omega))))
                    · refine o_callF (by ((try simp only [simB0, simB1, SA, SV, SN, SR, SL, pick_bool, Nat.reduceEqDiff, ↓reduceIte, Nat.reduceAdd, Nat.reduceLeDiff]); (try with_reducible rfl))) (by ((try simp only [simB0, simB1, SA, SV, SN, SR, SL, pick_bool, Nat.reduceEqDiff, ↓reduceIte, Nat.reduceAdd, Nat.reduceLeDiff]); (try with_reducible rfl))) (cloneF_c w hsw) (snapL_cons (snap_row (hE3.trans hDw) rfl hwl) snapL_nil) ?_
                      repeat' (first | (apply e_bld rfl; (focus (exact Nat.succ_ne_zero _)); (focus ((try simp (disch := omega) only [simB2, simB1, SA, SV, SN, SR, SL, pick_bool, Nat.reduceEqDiff, ↓reduceIte, Nat.reduceAdd, Nat.reduceLeDiff, y1, y6, y7, y8, r3, r4, p0]); (try with_reducible rfl); done)); (focus ((try simp (disch := omega) only [simB2, simB1, SA, SV, SN, SR, SL, pick_bool, Nat.reduceEqDiff, ↓reduceIte, Nat.reduceAdd, Nat.reduceLeDiff, SO, Bool.and_self, one_encV, one_encVV, y1, y6, y7, y8, r3, r4, p0]); (try with_reducible rfl); done))))
                      have hEE : ∀ b, a + 4 ≤ b → hupd E (a + 2) [c1] b = E b := fun b h => hupd_ne (by omega)
                      obtain ⟨so1, so2⟩ := r5.one
                      refine e_row rfl (by ((try simp only [simB0, simB1, SA, SV, SN, SR, SL, pick_bool, Nat.reduceEqDiff, ↓reduceIte, Nat.reduceAdd, Nat.reduceLeDiff]); (try with_reducible rfl))) (r6.same fun b hb => ?_) (by ((try simp only [simB0, simB1, SA, SV, SN, SR, SL, pick_bool, Nat.reduceEqDiff, ↓reduceIte, Nat.reduceAdd, Nat.reduceLeDiff]); (try with_reducible rfl))) asrc_one rfl rfl Nat.one_pos (by simp at r11 ⊢; omega) (by simp at r11 ⊢; omega) ?_
                      · have := r8 b hb
                        rw [hupd_ne (by omega), hupd_ne (by omega)]
                      rintro s2 F f hrow hle1 hle2 hsame hb2
                      obtain ⟨s21, s22⟩ := hrow.one
                      have hsame' : ∀ i, i < e → i ≠ a + 2 → rowB sc ≠ some i → F i = hupd E (a + 2) [c1] i := fun i h1 h2 h3 => by
                        rw [hsame i (by omega) h3, hupd_ne (by omega), hupd_ne h2]
                      have hF1 : F (a + 1) = some [encV vec, so, sc] := by
                        rw [hsame' (a + 1) (by omega) (by omega) (fun h => by have := r8 _ h; omega), hupd_ne (by omega), r4]
                      repeat' (first | refine a_n ?_ | refine o_nil ?_ | (apply o_val rfl; (focus (first | rfl | (simp (disch := omega) only [dm2, oldP, newP, simB0, simB1, SA, SV, SN, SR, SL, pick_bool, Nat.reduceEqDiff, ↓reduceIte, Nat.reduceAdd, Nat.reduceLeDiff, decide_eq_true_eq]; first | done | omega))); (focus ((try simp (disch := omega) only [simB2, simB1, SA, SV, SN, SR, SL, pick_bool, Nat.reduceEqDiff, ↓reduceIte, Nat.reduceAdd, Nat.reduceLeDiff, SO, one_encV, one_encVV, Bool.and_self, Bool.false_eq_true, reduceCtorEq, wrap64, aixS_encV, aixS_encVV, alenS_encV, alenS_encVV, Int.toNat_natCast, List.length_map, aixS_msl, getElem?_map_lt, Nat.mul_one, y1, y6, y7, y8, r4, hF1, so1, so2, s21, s22]); first | with_reducible rfl | (apply s_ite; (focus omega); with_reducible rfl)))) | (apply e_st; (focus (first | rfl | (simp (disch := omega) only [dm2, oldP, newP, simB0, simB1, SA, SV, SN, SR, SL, pick_bool, Nat.reduceEqDiff, ↓reduceIte, Nat.reduceAdd, Nat.reduceLeDiff, decide_eq_true_eq]; first | done | omega))); (focus ((try simp (disch := omega) only [simB2, simB1, SA, SV, SN, SR, SL, pick_bool, Nat.reduceEqDiff, ↓reduceIte, Nat.reduceAdd, Nat.reduceLeDiff, y1, y6, y7, y8, r4, hF1, so1, so2, s21, s22]); (try with_reducible rfl); done)); (focus ((try simp (disch := omega) only [simB2, simB1, SA, SV, SN, SR, SL, pick_bool, Nat.reduceEqDiff, ↓reduceIte, Nat.reduceAdd, Nat.reduceLeDiff, y1, y6, y7, y8, r4, hF1, so1, so2, s21, s22]); (try with_reducible rfl); done)); (focus ((try simp (disch := omega) only [simB2, simB1, SA, SV, SN, SR, SL, pick_bool, Nat.reduceEqDiff, ↓reduceIte, Nat.reduceAdd, Nat.reduceLeDiff, y1, y6, y7, y8, r4, hF1, so1, so2, s21, s22]); (try with_reducible rfl); done)); (focus ((try simp (disch := omega) only [simB2, simB1, SA, SV, SN, SR, SL, pick_bool, Nat.reduceEqDiff, ↓reduceIte, Nat.reduceAdd, Nat.reduceLeDiff, y1, y6, y7, y8, r4, hF1, so1, so2, s21, s22]); (try with_reducible rfl); done)); (focus (simp (disch := omega) only [SO, Bool.and_self, one_encV, one_encVV, y1, y6, y7, y8, r4, hF1, so1, so2, s21, s22])); (focus ((try simp (disch := omega) only [SL, Nat.reduceAdd, Nat.reduceMul, List.length_map]); first | done | omega)); (focus ((try simp (disch := omega) only [SL, Nat.reduceAdd, Nat.reduceMul, List.length_map]); first | done | omega)); (focus ((try simp (disch := omega) only [SL, Nat.reduceAdd, Nat.reduceMul, List.length_map]); first | done | omega))))
                      obtain ⟨z1, z2⟩ := InI.put2 (vec := vec) (c1 := c1) (e := f) (by omega) q1.2.1 q1.2.2.1 r5 r7 r8 r9 r10 (by simp; omega) hrow (by omega) hsame' (fun b h => (hb2 b h).imp id (fun h => by omega))
                      rw [hupd_ne (by omega)] at z2
                      refine .inl ⟨trivial, ⟨?_, hupd_self'⟩, by omega, by omega, ?_⟩
                      · rw [_hg, if_pos rfl]; exact z1
                      · rw [hupd_ne (by omega), hupd_ne (by omega), z2, hE3]
                    · refine .inl ⟨trivial, ⟨?_, hupd_self'⟩, by omega, hde, (hupd_ne (by omega)).trans hE3⟩
                      simp only [_hg, Bool.false_eq_true, if_false, List.append_nil]
                      exact hq1
          · rintro r D d (⟨q1, q2, q3, q4⟩ | ⟨q1, q2⟩)
            · right
              refine ⟨.ret, by simp, q1, ?_⟩
              repeat' (first | refine a_r ?_)
              exact .inr ⟨rfl, hupd_self', (hupd_ne (by omega)).trans ((hdel_ne (by omega)).trans q2), (hupd_ne (by omega)).trans ((hdel_ne (by omega)).trans q3), caseOf k vec, List.mem_map.2 ⟨vec, List.mem_filter.2 ⟨hmem, hpc⟩, rfl⟩, q4⟩
            · left
              refine ⟨q2, ?_⟩
              repeat' (first | refine a_n ?_)
              rw [List.take_of_length_le (Nat.le_refl _)] at q1
              exact ⟨u5, rfl, q1.stab (Nat.le_refl _) (fun i hi h2 _ => hdel_ne h2)⟩
      · rintro r A a (⟨h4, h1, h2, hex⟩ | ⟨⟨h5, h0, h1, h2, s, h3, hr, hb, hc⟩, h4⟩)
        · right
          refine ⟨.ret, by simp, h4, ?_⟩
          repeat' (first | refine a_r ?_ | (refine e_ends rfl ?_) | (apply r_2; (focus (simp only [rv, simB0, simB1, SA, SV, SN, SR, SL, pick_bool, Nat.reduceEqDiff, ↓reduceIte, Nat.reduceAdd, Nat.reduceLeDiff, t1, t2, t3, h1, h2]; with_reducible rfl)); (focus (simp only [rv, simB0, simB1, SA, SV, SN, SR, SL, pick_bool, Nat.reduceEqDiff, ↓reduceIte, Nat.reduceAdd, Nat.reduceLeDiff, t1, t2, t3, h1, h2]; with_reducible rfl))))
          have e : taskOf k = (T00, 17) := by
            unfold taskOf
            rw [if_neg (by omega), if_neg c3, if_neg (by omega), if_pos]
            rw [List.any_eq_true]
            obtain ⟨c, k1, k2⟩ := hex
            exact ⟨c, k1, by simpa using k2⟩
          rw [e]; exact snapErr 17
        · left
          refine ⟨h4, ?_⟩
          rw [List.take_of_length_le (Nat.le_refl _)] at hr hc
          repeat' (first | refine a_n ?_)
          refine ⟨t2, t3, rfl, h1, h2, s, h3, hr.same (fun b hb' => ?_), fun b hb' => ?_, hc⟩
          · have := hb b hb'; exact hdel_ne (by omega)
          · have := hb b hb'; omega

end Go.Proofs.Ytcbkggfipdldaaa
