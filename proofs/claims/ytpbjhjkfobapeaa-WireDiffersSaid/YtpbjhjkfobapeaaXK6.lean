/- Texts of this claim, one after the other: K6. -/
import Derived.Test.YtpbjhjkfobapeaaXG6
import Derived.Test.YtpbjhjkfobapeaaXG7
import Derived.Lib.SmallJoins
import Derived.ChangeMaps5
import Derived.SizedLaws

/- WireDiffers: for every input the law returns true, and each argument reads behind the call as it read before; no condition. -/
set_option linter.unusedVariables false
namespace Go.Proofs.Ytpbjhjkfobapeaa.wireDiffers
open Go Go.Abs Go.RowKit Go.ChangeShapes Go.WideShapes Go.ChangeAt Go.Joins
open Go.ChangeMaps (open_string shut_string)

set_option maxRecDepth 100000 in
theorem lifted (os : Os) (started : os.Started) (H : Type) (enc : TypeId × Value → H) :
    ReturnsInHanded {} Try.checked os 6 .any (Rows.wireDiffersSpec.pre6 enc Try.prog Try.f6 Rows.wireDiffersRow.domain false) (Rows.wireDiffersSpec.post enc Try.prog Try.f6 false true false false) := by
  refine returnsInHanded_of_change_sized (C := Try.checked) own started (by kernel_rfl) Try.func6
    (ChangeSpec.witness6 (enc := enc) (C := Try.checked) false ⟨#[], #[.string ⟨#[]⟩, .int .u16 0, .int .u8 0], []⟩ 20 (by kernel_rfl) (by kernel_rfl) (by kernel_rfl) (by kernel_rfl)) ?_
  intro W base args ds gs before hval0 hW hcnd hwt _
  have hval : ∀ (j : Nat) t v, Try.f6.params[j]? = some t → args[j]? = some v → Value.okWide Try.prog W .any base t v := hval0
  have hW' := hW
  obtain ⟨p, q, hA0, hV, rfl, hfz, hnd⟩ := hW
  have hA : DataW.TrodAll enc Try.prog W 0 (fun _ => true) true Try.f6.params.toList args.toList ds p := hA0
  have hA1 := hA
  obtain ⟨rfl, rfl⟩ := trodVars_none hV
  have hlt : ∀ x ∈ p, x.block < W.heap.size := fun x hx => by simpa using hW'.lt x (List.mem_append_left _ hx)
  have hwt1 : ∀ {i : Nat} {t : TypeId} {d : DataW H}, Try.f6.params.toList[i]? = some t → ds[i]? = some d → ∀ k ∈ d.weights Try.prog t, k ≤ reachBytes := fun {i t d} h1 h2 k hk => by
    have h3 := weightsEach_at (P := Try.prog) h1 h2 k hk
    have h4 : (DataW.weightsEach Try.prog (Try.f6.params.toList ++ (Rows.wireDiffersSpec.plain.varTypes Try.prog)) (ds ++ [])).all (· ≤ reachBytes) = true := hwt
    rw [List.append_nil, show Rows.wireDiffersSpec.plain.varTypes Try.prog = [] by kernel_rfl, List.append_nil, List.all_eq_true] at h4
    exact of_decide_eq_true (h4 _ h3)
  rw [Try.params6] at hA hval hwt1
  obtain ⟨v0, v1, v2, d0, d1, d2, p0, p1, p2, hax, rfl, rfl, h0, h1, h2⟩ := trodAll_three hA
  subst hax
  obtain ⟨s, rfl, _, _, ws⟩ := open_string Try.underlying9 (hval 0 9 v0 rfl rfl) h0
  obtain ⟨a, rfl, _, _, wa⟩ := open_int Try.underlying55 (hval 1 55 v1 rfl rfl) h1
  obtain ⟨y, rfl, _, _, wy⟩ := open_int Try.underlying5 (hval 2 5 v2 rfl rfl) h2
  obtain ⟨a, rfl, ha⟩ := wf16 wa
  obtain ⟨y, rfl⟩ := wf8 wy
  have hcall : Calls Try.prog 6 ([.string s, .int .u16 a, .int .u8 y.toNat] : List Value).toArray W fun e w' => e = .returned (.bool true) ∧ Below W.heap.size W w' := calls_of_pureO (law6_c s.data.toList (by show s.data.toList.length ≤ 9223372036854775807; rw [Array.length_toList]; exact ws) a ha y) W (relL_cons (.str _) (relL_cons (.int _ _) (relL_cons (.int _ _) relL_nil)))
  refine hcall.mono fun e W' ⟨he, hg⟩ => ?_
  subst he
  exact ⟨_, rfl, post_of_below (pv := []) hW' (fun _ _ _ => (trodAll_cons_mk (shut_bool Try.underlying4 _) trodAll_mk0))
    (fun sp hsp => trodAll_stays laid hg (by rw [Try.params6]; intro t ht; simp only [List.mem_cons, List.not_mem_nil, or_false] at ht; rcases ht with rfl | rfl | rfl <;> exact ⟨by kernel_rfl, of_decide_eq_true (by kernel_rfl)⟩) hA1 hlt (fun x hx => hsp x (List.mem_append_left _ hx))) (fun _ _ => rfl) rfl
    hg (ok_one (by kernel_rfl) rfl (okWide_bool_mk Try.underlying4 _))⟩

theorem over : Rows.wireDiffersRow.holds Try.pinned (OpenSpec.ofChange Rows.wireDiffersSpec) :=
  OpenClaim.holds_of_wide 6 Try.f6 rfl rfl rfl rfl rfl rfl rfl ⟨rfl, rfl, rfl, rfl, rfl⟩ rfl rfl rfl rfl rfl (by kernel_rfl) Try.func6 (by kernel_rfl)
    (of_decide_eq_true (by kernel_rfl)) (by unfold Func.isWrapper; first | (rw [if_pos (by decide +kernel)]; kernel_rfl) | (rw [if_neg (by decide +kernel)]; exact ⟨rfl, rfl⟩))
    (fun os started H enc _ => lifted os started H enc)

theorem proved : Rows.WireDiffersSaid :=
  over
end Go.Proofs.Ytpbjhjkfobapeaa.wireDiffers
