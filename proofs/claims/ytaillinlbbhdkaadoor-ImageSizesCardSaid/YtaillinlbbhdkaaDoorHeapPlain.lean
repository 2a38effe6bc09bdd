/- Plain laws of bytes in a word. -/
import Derived.KernelRfl
namespace Go.Proofs.YtaillinlbbhdkaaDoor
/-- byte j of a word -/
def byteIn (W j : Nat) : Nat := W / 2 ^ (8 * j) % 256
theorem byteIn_lt (W j : Nat) : byteIn W j < 256 := Nat.mod_lt _ (by omega)
theorem byteIn_bit (W j i : Nat) : (byteIn W j).testBit i = (decide (i < 8) && W.testBit (8 * j + i)) := by
  unfold byteIn
  rw [show (256 : Nat) = 2 ^ 8 from rfl, Nat.testBit_mod_two_pow, ← Nat.shiftRight_eq_div_pow, Nat.testBit_shiftRight]
/-- a word with another byte r -/
def putIn (W r c : Nat) : Nat := (W &&& (18446744073709551615 - 255 * 2 ^ (8 * r))) ||| (c * 2 ^ (8 * r))
theorem mask_bit (r b : Nat) (hr : r < 8) (hb : b < 64) : (18446744073709551615 - 255 * 2 ^ (8 * r)).testBit b = !(decide (8 * r ≤ b) && decide (b < 8 * r + 8)) := by
  have : ∀ r, r < 8 → ∀ b, b < 64 → (18446744073709551615 - 255 * 2 ^ (8 * r)).testBit b = !(decide (8 * r ≤ b) && decide (b < 8 * r + 8)) := by decide +kernel
  exact this r hr b hb
theorem putIn_lt (W r c : Nat) (hW : W < 18446744073709551616) (hc : c < 256) (hr : r < 8) : putIn W r c < 18446744073709551616 := by
  unfold putIn
  refine Nat.or_lt_two_pow (n := 64) (Nat.lt_of_le_of_lt Nat.and_le_left hW) ?_
  have h2 : 2 ^ (8 * r) ≤ 2 ^ 56 := Nat.pow_le_pow_right (by omega) (by omega)
  calc c * 2 ^ (8 * r) ≤ 255 * 2 ^ 56 := Nat.mul_le_mul (by omega) h2
    _ < _ := by decide
theorem putIn_byte (W r c j : Nat) (hc : c < 256) (hr : r < 8) (hj : j < 8) : byteIn (putIn W r c) j = if j = r then c else byteIn W j := by
  apply Nat.eq_of_testBit_eq
  intro i
  rw [byteIn_bit]
  unfold putIn
  rw [Nat.testBit_or, Nat.testBit_and, Nat.testBit_mul_two_pow]
  by_cases hi : i < 8
  · rw [mask_bit r _ hr (by omega)]
    by_cases e : j = r
    · subst e
      rw [if_pos rfl]
      simp [hi]
    · rw [if_neg e, byteIn_bit]
      by_cases h1 : j < r
      · have a1 : ¬ 8 * r ≤ 8 * j + i := by omega
        simp [hi, a1]
      · have a1 : 8 * r ≤ 8 * j + i := by omega
        have a2 : ¬ 8 * j + i < 8 * r + 8 := by omega
        have a3 : c.testBit (8 * j + i - 8 * r) = false := Nat.testBit_lt_two_pow (Nat.lt_of_lt_of_le (show c < 2 ^ 8 from hc) (Nat.pow_le_pow_right (by omega) (by omega)))
        simp [hi, a2, a3]
  · have : (if j = r then c else byteIn W j).testBit i = false := by
      have hl : (if j = r then c else byteIn W j) < 2 ^ 8 := by split; exact hc; exact byteIn_lt W j
      exact Nat.testBit_lt_two_pow (Nat.lt_of_lt_of_le hl (Nat.pow_le_pow_right (by omega) (by omega)))
    rw [this]; simp [hi]
end Go.Proofs.YtaillinlbbhdkaaDoor
