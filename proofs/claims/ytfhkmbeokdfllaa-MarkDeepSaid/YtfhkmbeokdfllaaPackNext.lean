/- Sets of bits: how many there may be; the next one. -/
import Derived.Test.YtfhkmbeokdfllaaPackSet
namespace Go.Proofs.Ytfhkmbeokdfllaa
open Go.RowKit
theorem BitsAt.later {w w' : World} {B b n : Nat} {S : Nat → Bool} (h : BitsAt w B b n S) (hb : Below w.heap.size w w') : BitsAt w' B b n S := by
  obtain ⟨g, cap, m, ws, f, h1, h2, h3, h4, h5, h6, h7, h8, h9⟩ := h
  have hl : b < w.heap.size := (Array.getElem?_eq_some_iff.1 h5).1
  exact ⟨g, cap, m, ws, f, h1, h2, h3, h4, by rw [hb.block b hl]; exact h5, h6, h7, h8.of_block (hb.block g h8.lt), h9⟩
theorem BitsAt.mono {w : World} {B C b n : Nat} {S : Nat → Bool} (h : BitsAt w B b n S) (hc : C ≤ B) : BitsAt w C b n S := by
  obtain ⟨g, cap, m, ws, f, h1, h2, h3⟩ := h
  exact ⟨g, cap, m, ws, f, by omega, by omega, h3⟩
end Go.Proofs.Ytfhkmbeokdfllaa
