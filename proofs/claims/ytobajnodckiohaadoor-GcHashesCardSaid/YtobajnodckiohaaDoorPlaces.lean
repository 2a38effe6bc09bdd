/- Objects of memory that are right: plain words. -/
import Derived.Test.YtobajnodckiohaaDoorHeapE
namespace Go.Proofs.YtobajnodckiohaaDoor
open Go.RowKit
set_option linter.unusedVariables false
def OKO (N : Nat) (S : Nat → Bool) (M : Nat → Nat) (a : Nat) : Prop := 1 ≤ a ∧ a + 2 ≤ N ∧ S a = true ∧ UnOK (M a) (M (a + 1))
def GoodH (N : Nat) (S : Nat → Bool) (M : Nat → Nat) : Prop := ∀ a, S a = true → OKO N S M a ∧ (hK (M (a + 1)) ≠ 2 → a + 2 + (hS (M (a + 1))).toNat ≤ N)
theorem setT (N a : Nat) (T : Nat → Bool) (h : a < N) (j : Nat) : setS N T (a : Int) true j = true ↔ j = a ∨ T j = true := by
  unfold setS
  by_cases hj : j = a
  · subst hj; rw [if_pos ⟨by omega, by omega, by omega⟩]; simp
  · rw [if_neg (fun hh => hj (by have := hh.2.2; omega))]; simp [hj]
end Go.Proofs.YtobajnodckiohaaDoor
