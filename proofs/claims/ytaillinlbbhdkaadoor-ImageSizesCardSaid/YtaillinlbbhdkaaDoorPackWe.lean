/- Words as bytes: the program's and the document's; the document's of bytes as words. -/
import Derived.Test.YtaillinlbbhdkaaDoorPackWd
namespace Go.Proofs.YtaillinlbbhdkaaDoor
open Go.RowKit
set_option linter.unusedVariables false
theorem rg_drop {w : World} {a : Option Addr} {n cap : Nat} {L : List UInt8} (h : BytesAt w (.slice a n cap) L) (k : Nat) (hk : k < L.length) : ∃ b o, a = some ⟨b, o, none⟩ ∧ BytesAt w (.slice (some ⟨b, o + k, none⟩) (L.length - k) (cap - k)) (L.drop k) := by
  obtain ⟨a', cap', hv, h1, h2, h3, h4⟩ := h
  injection hv with e1 e2 e3
  subst e1 e3
  rcases h3 with h3 | ⟨b, o, rfl, hc⟩
  · have : L = [] := by simpa [Lib.byteCells] using h3
    subst this; simp at hk
  · refine ⟨b, o, rfl, some ⟨b, o + k, none⟩, cap - k, by rw [List.length_drop], by rw [List.length_drop]; omega, by omega, Or.inr ⟨b, o + k, rfl, fun j hj => ?_⟩, fun h => by cases h⟩
    rw [Lib.byteCells_length, List.length_drop] at hj
    rw [Nat.add_assoc, hc (k + j) (by rw [Lib.byteCells_length]; omega)]
    unfold Lib.byteCells
    rw [List.getElem?_map, List.getElem?_map, List.getElem?_drop]
theorem getN8_drop (L : List UInt8) (k : Nat) (h : 8 * k + 8 ≤ L.length) : getN (L.drop (8 * k)) 8 = wordAt L k := by
  have hc : clip8 8 = 8 := by decide
  unfold getN wordAt
  rw [hc, if_pos (by rw [List.length_drop]; omega)]
end Go.Proofs.YtaillinlbbhdkaaDoor
