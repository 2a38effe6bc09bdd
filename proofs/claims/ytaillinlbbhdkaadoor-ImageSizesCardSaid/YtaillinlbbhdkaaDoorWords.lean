/- Words in memory. -/
import Derived.Test.YtaillinlbbhdkaaDoorCopy
namespace Go.Proofs.YtaillinlbbhdkaaDoor
open Go.RowKit
set_option linter.unusedVariables false
def wordVals (l : List Nat) : List Value := l.map fun (x : Nat) => Value.int .u64 (Int.ofNat x)
def SmallW (l : List Nat) : Prop := ∀ x, x ∈ l → x < 18446744073709551616
/-- a slice that reads as these words -/
def WordsAt (w : World) (v : Value) (l : List Nat) : Prop := ∃ a cap, v = .slice a l.length cap ∧ l.length ≤ cap ∧ cap ≤ maxLen ∧ RowAt w a (wordVals l) ∧ (a = none → cap = 0)
theorem wordVals_length (l : List Nat) : (wordVals l).length = l.length := by simp [wordVals]
theorem WordsAt.later {w w' : World} {v : Value} {l : List Nat} (h : WordsAt w v l) (hb : Below w.heap.size w w') : WordsAt w' v l := by
  obtain ⟨a, cap, hv, h1, h2, h3, h4⟩ := h
  exact ⟨a, cap, hv, h1, h2, h3.later hb, h4⟩
theorem words_none (w : World) : WordsAt w (.slice none 0 0) [] := ⟨none, 0, rfl, Nat.le_refl _, by unfold maxLen; omega, Or.inl rfl, fun _ => rfl⟩
theorem words_of_owns {w : World} {B e n : Nat} {v : Value} {l : List Nat} (h : w.ownsRow B e 1 v n (wordVals l)) : WordsAt w v l := by
  obtain ⟨a, cap, hv, h1, h2, h3, h5⟩ := row_of_owns_any h
  have hn : n = l.length := by have := h.1; rw [wordVals_length] at this; omega
  subst hn
  exact ⟨a, cap, hv, h1, h2, h3, h5⟩
theorem WordsAt.get {w : World} {v : Value} {l : List Nat} (h : WordsAt w v l) : ∃ a cap, v = .slice a l.length cap ∧ l.length ≤ cap ∧ cap ≤ maxLen ∧
    ∀ i (hi : i < l.length), ∃ b o, a = some ⟨b, o, none⟩ ∧ b < w.heap.size ∧ w.cell? ⟨b, o + i, none⟩ = some (.int .u64 (l[i] : Int)) := by
  obtain ⟨a, cap, hv, h1, h2, h3, h4⟩ := h
  refine ⟨a, cap, hv, h1, h2, fun i hi => ?_⟩
  rcases h3 with h3 | ⟨b, o, ha, hc⟩
  · have := wordVals_length l; rw [h3] at this; simp at this; omega
  · have hcc := hc i (by rw [wordVals_length]; exact hi)
    have e : (wordVals l)[i]? = some (.int .u64 (l[i] : Int)) := by simp [wordVals, hi]
    rw [e] at hcc
    exact ⟨b, o, ha, lt_of_cell hcc, hcc⟩
end Go.Proofs.YtaillinlbbhdkaaDoor
