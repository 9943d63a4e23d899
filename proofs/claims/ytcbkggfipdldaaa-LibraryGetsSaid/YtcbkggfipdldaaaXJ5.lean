/- LibraryGets: for every input the law returns true, and each argument reads behind the call as it read before; no condition. -/
import Derived.Test.YtcbkggfipdldaaaXP22
import Derived.Test.YtcbkggfipdldaaaXP18
import Derived.Lib.SmallJoins
import Derived.ChangeMaps5
set_option linter.unusedVariables false
namespace Go.Proofs.Ytcbkggfipdldaaa.libraryGets
open Go Go.Abs Go.RowKit Go.ChangeShapes Go.WideShapes Go.ChangeAt Go.Joins
open Go.ChangeMaps (open_string shut_string)

theorem cells36 : Try.prog.cellsOf 36 = 3 := by kernel_rfl

theorem rel3 {E : Env} {w : World} {n a b : Int} : Rel E w (.agg [.int .i64 n, .int .i64 a, .int .i64 b]) (.agg #[.int .i64 n, .int .i64 a, .int .i64 b]) := by
  refine Rel.agg [_, _, _] [_, _, _] rfl (fun i x y hx hy => ?_)
  match i with
  | 0 => cases hx; cases hy; exact .int _ _
  | 1 => cases hx; cases hy; exact .int _ _
  | 2 => cases hx; cases hy; exact .int _ _
  | i + 3 => simp at hx

theorem walk (s : ByteArray) (n a b : Int) (w1 : (Lit.int .i64 a).wf = true) (w : World) :
    Calls Try.prog 5 #[.string s, .agg #[.int .i64 n, .int .i64 a, .int .i64 b]] w fun e w' => e = .returned (.bool true) ∧ Below w.heap.size w w' :=
  calls_of_pure (law5_c s n a b (wf64 w1)) w (relL_cons (.str _) (relL_cons rel3 relL_nil))

set_option maxRecDepth 100000 in
theorem lifted (os : Os) (started : os.Started) (H : Type) (enc : TypeId × Value → H) :
    ReturnsInHanded {} Try.checked os 5 .any (Rows.libraryGetsSpec.pre6 enc Try.prog Try.f5 Rows.libraryGetsRow.domain false) (Rows.libraryGetsSpec.post enc Try.prog Try.f5 false true false false) := by
  refine returnsInHanded_of_change (C := Try.checked) own started (by kernel_rfl) Try.func5
    (ChangeSpec.witness6 (enc := enc) (C := Try.checked) false ⟨#[], #[.string ⟨#[]⟩, .agg #[.int .i64 0, .int .i64 0, .int .i64 0]], []⟩ 8 (by kernel_rfl) (by kernel_rfl) (by kernel_rfl) (by kernel_rfl)) ?_
  intro W base args ds gs before hval0 hW hcnd _
  have hval : ∀ (j : Nat) t v, Try.f5.params[j]? = some t → args[j]? = some v → Value.okWide Try.prog W .any base t v := hval0
  have hW' := hW
  obtain ⟨p, q, hA0, hV, rfl, hfz, hnd⟩ := hW
  have hA : DataW.TrodAll enc Try.prog W 0 (fun _ => true) true Try.f5.params.toList args.toList ds p := hA0
  rw [Try.params5] at hA hval
  obtain ⟨v0, v1, d0, d1, p0, p1, rfl, rfl, rfl, h0, h1⟩ := trodAll_two hA
  obtain ⟨rfl, rfl⟩ := trodVars_none hV
  obtain ⟨s, rfl, rfl, rfl, ws⟩ := open_string Try.underlying9 (hval 0 9 v0 rfl rfl) h0
  obtain ⟨c0, c1, c2, y0, y1, y2, m, rfl, rfl, rfl, hy0, hy1, hy2⟩ := open_agg3 Try.underlying36 (by kernel_rfl) cells36 (hval 1 36 v1 rfl rfl) h1
  obtain ⟨n, e0, rfl, w0⟩ := DataW.trod_int Try.underlying3 hy0
  obtain ⟨a, e1, rfl, w1⟩ := DataW.trod_int Try.underlying3 hy1
  obtain ⟨b, e2, rfl, w2⟩ := DataW.trod_int Try.underlying3 hy2
  simp at e0 e1 e2
  subst e0 e1 e2
  clear hA0 hval0
  simp only [List.append_nil] at hW'
  refine (walk s n a b w1 W).mono fun e W' ⟨he, hg⟩ => ?_
  subst he
  have hi : ∀ (sp : Nat → Bool) (k : Int), (Lit.int .i64 k).wf = true → ∃ q, DataW.trod enc Try.prog W' 0 sp true q 3 [.int .i64 k] = some (.lit (.int .i64 k), []) := fun sp k hk => by
    obtain ⟨q, h⟩ := shut_int (enc := enc) (w := W') (base := 0) (spare := sp) (held := true) Try.underlying3 hk
    exact ⟨q, h⟩
  exact ⟨_, rfl, post_of_below (pa := []) (pv := []) hW' (fun _ _ _ => (trodAll_cons_mk (shut_bool Try.underlying4 _) trodAll_mk0)) (fun sp _ => (trodAll_cons_mk (shut_string Try.underlying9 ws) (trodAll_cons_mk (shut_agg3 Try.underlying36 (by kernel_rfl) cells36 (hi sp n w0) (hi sp a w1) (hi sp b w2)) trodAll_mk0))) (fun _ _ => rfl) rfl
    hg (ok_one (by kernel_rfl) rfl (okWide_bool_mk Try.underlying4 _))⟩

theorem over : Rows.libraryGetsRow.holds Try.pinned (OpenSpec.ofChange Rows.libraryGetsSpec) :=
  OpenClaim.holds_of_wide 5 Try.f5 rfl rfl rfl rfl rfl rfl rfl ⟨rfl, rfl, rfl, rfl, rfl⟩ rfl rfl rfl rfl rfl (by kernel_rfl) Try.func5 (by kernel_rfl)
    (of_decide_eq_true (by kernel_rfl)) (by unfold Func.isWrapper; first | (rw [if_pos (by decide +kernel)]; kernel_rfl) | (rw [if_neg (by decide +kernel)]; exact ⟨rfl, rfl⟩))
    (fun os started H enc _ => lifted os started H enc)

theorem proved : Rows.LibraryGetsSaid :=
  over
end Go.Proofs.Ytcbkggfipdldaaa.libraryGets
