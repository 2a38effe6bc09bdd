/- Roots: words by places, or as they are. -/
import Derived.Test.YtaillinlbbhdkaaDoorLayD
namespace Go.Proofs.YtaillinlbbhdkaaDoor
open Go.RowKit
set_option linter.unusedVariables false
theorem owns_apart {w : World} {B B' e e' s s' n n' : Nat} {v v' : Value} {xs xs' : List Value} (h : w.ownsRow B e s v n xs) (h' : w.ownsRow B' e' s' v' n' xs') (hne : e ≠ e') : v.ownBlock = none ∨ v.ownBlock ≠ v'.ownBlock := by
  rcases h.2 with ⟨hv, -⟩ | ⟨g, cap, cur, hv, -, hg, -⟩
  · rw [hv]; exact Or.inl rfl
  · rcases h'.2 with ⟨hv', -⟩ | ⟨g', cap', cur', hv', -, hg', -⟩
    · rw [hv, hv']; exact Or.inr (by simp [Value.ownBlock])
    · rw [hv, hv']
      refine Or.inr fun e1 => ?_
      simp [Value.ownBlock] at e1
      subst e1
      rw [hg] at hg'
      simp at hg'
      exact hne hg'.2
end Go.Proofs.YtaillinlbbhdkaaDoor
