/- The bundles of simp's rules. -/
import Derived.Test.YtcbkggfipdldaaaXAbsC8
set_option linter.unusedVariables false
namespace Go.Abs
theorem simB1 : (∀ l : List Int, (encV l).cells = [encV l]) ∧ (∀ l : List (List Int), (encVV l).cells = [encVV l]) ∧ (∀ x : Nat, noBoxes x = none) ∧
    (∀ (α β : Type) (f : α → β) (a : α) (l : List α), (a :: l).map f = f a :: l.map f) ∧ (∀ (α β : Type) (f : α → β), ([] : List α).map f = []) ∧ (∀ (α β : Type) (f : α → β) (a : α), (some a).map f = some (f a)) ∧ (∀ (α β : Type) (f : α → β), (none : Option α).map f = none) ∧
    (∀ n : Nat, 0 + n = n) ∧ (∀ n : Nat, n + 0 = n) ∧ (∀ p : Prop, (p ∧ p) = p) ∧ (∀ p : Prop, (p ∧ True) = p) ∧ (∀ p : Prop, (True ∧ p) = p) ∧ ((!true) = false) ∧ ((!false) = true) ∧
    (∀ (α : Type) (a : α) (l m : List α), (a :: l) ++ m = a :: (l ++ m)) ∧ (∀ (α : Type) (l : List α), [] ++ l = l) ∧ (∀ (α : Type) (l : List α), l ++ [] = l) :=
  ⟨fun _ => rfl, fun _ => rfl, fun _ => rfl, fun _ _ _ _ _ => rfl, fun _ _ _ => rfl, fun _ _ _ _ => rfl, fun _ _ _ => rfl, Nat.zero_add, Nat.add_zero, and_self, and_true, true_and, rfl, rfl, fun _ _ _ _ => rfl, fun _ _ => rfl, fun _ l => List.append_nil l⟩
theorem simB0 : (∀ (H : Hp) (b x : Nat) (cs : List AV), hupd H b cs x = if x = b then some cs else H x) ∧ (∀ (H : Hp) (b x : Nat), hdel H b x = if x = b then none else H x) := ⟨fun _ _ _ _ => rfl, fun _ _ _ => rfl⟩
theorem simB2 : (∀ (H : Hp) (b : Nat) (cs : List AV), hupd H b cs b = some cs) ∧ (∀ (H : Hp) (b x : Nat) (cs : List AV), x ≠ b → hupd H b cs x = H x) ∧ (∀ (H : Hp) (b : Nat), hdel H b b = none) ∧ (∀ (H : Hp) (b x : Nat), x ≠ b → hdel H b x = H x) ∧ (∀ a b c : Nat, a + b + c = a + (b + c)) :=
  ⟨fun _ _ _ => hupd_self', fun _ _ _ _ h => hupd_ne h, fun _ _ => hdel_self, fun _ _ _ h => hdel_ne h, Nat.add_assoc⟩
end Go.Abs
