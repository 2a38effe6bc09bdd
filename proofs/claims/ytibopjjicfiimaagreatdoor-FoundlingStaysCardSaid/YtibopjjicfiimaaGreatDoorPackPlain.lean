/- Plain laws of sets of bits: a word's bits, the next number, how many. -/
import Derived.Test.YtibopjjicfiimaaGreatDoorRows
import Derived.Lib.TrailingZeros
namespace Go.Proofs.YtibopjjicfiimaaGreatDoor
theorem and_bit (W j : Nat) : (W &&& 2 ^ j != 0) = W.testBit j := by
  have h : ∀ i, (W &&& 2 ^ j).testBit i = (W.testBit i && decide (j = i)) := fun i => by rw [Nat.testBit_and, Nat.testBit_two_pow]
  cases hb : W.testBit j with
  | true =>
    have h1 := h j
    have : W &&& 2 ^ j ≠ 0 := fun h0 => by rw [h0, hb, Nat.zero_testBit] at h1; simp at h1
    simp [this]
  | false =>
    have : W &&& 2 ^ j = 0 := by
      apply Nat.eq_of_testBit_eq
      intro i
      rw [h i, Nat.zero_testBit]
      by_cases hi : j = i
      · subst hi; simp [hb]
      · simp [hi]
    simp [this]
/-- the lowest bit that is set -/
theorem ctz_bits (x : Nat) (h0 : x ≠ 0) (h : x < 18446744073709551616) : Lib.ctz 64 x < 64 ∧ x.testBit (Lib.ctz 64 x) = true ∧ ∀ j, j < Lib.ctz 64 x → x.testBit j = false := by
  obtain ⟨m, hm, hk⟩ := Lib.ctzFrom_spec 64 x (by omega) h
  have e : Lib.ctz 64 x = Lib.ctzFrom 64 x := by simp [Lib.ctz, h0]
  rw [e]
  have hb : ∀ j, x.testBit j = (decide (j ≥ Lib.ctzFrom 64 x) && (2 * m + 1).testBit (j - Lib.ctzFrom 64 x)) := fun j => by
    conv => lhs; rw [hm]
    rw [Nat.mul_comm, Nat.testBit_mul_two_pow]
  refine ⟨hk, ?_, fun j hj => ?_⟩
  · rw [hb]; simp
  · rw [hb]; simp [Nat.not_le.2 hj]
/-- the first number of S from i on, below n; -1: none -/
def IsNext (n : Nat) (S : Nat → Bool) (i r : Int) : Prop :=
  (r = -1 ∧ ∀ j : Nat, i ≤ (j : Int) → j < n → S j = false) ∨ (∃ k : Nat, r = (k : Int) ∧ k < n ∧ i ≤ (k : Int) ∧ S k = true ∧ ∀ j : Nat, i ≤ (j : Int) → j < k → S j = false)
theorem IsNext.unique {n : Nat} {S : Nat → Bool} {i r r' : Int} (h : IsNext n S i r) (h' : IsNext n S i r') : r = r' := by
  rcases h with ⟨rfl, h⟩ | ⟨k, rfl, h1, h2, h3, h4⟩ <;> rcases h' with ⟨rfl, h'⟩ | ⟨k', rfl, h1', h2', h3', h4'⟩
  · rfl
  · have := h k' h2' h1'; rw [h3'] at this; cases this
  · have := h' k h2 h1; rw [h3] at this; cases this
  · rcases Nat.lt_trichotomy k k' with hl | hl | hl
    · have := h4' k h2 hl; rw [h3] at this; cases this
    · rw [hl]
    · have := h4 k' h2' hl; rw [h3'] at this; cases this
/-- what the search has at word a: its bits from i on -/
def WordFrom (S : Nat → Bool) (i a W : Nat) : Prop := ∀ j, j < 64 → W.testBit j = (S (64 * a + j) && decide (i ≤ 64 * a + j))
theorem next_none {n i a : Nat} {S : Nat → Bool} (hz : ∀ j, i ≤ j → j < 64 * a → S j = false) (ha : n ≤ 64 * a) : IsNext n S (i : Int) (-1) :=
  Or.inl ⟨rfl, fun j h1 h2 => hz j (by omega) (by omega)⟩
theorem next_zero {i a : Nat} {S : Nat → Bool} (hz : ∀ j, i ≤ j → j < 64 * a → S j = false) (hw : WordFrom S i a 0) : ∀ j, i ≤ j → j < 64 * (a + 1) → S j = false := by
  intro j h1 h2
  by_cases h3 : j < 64 * a
  · exact hz j h1 h3
  · have := hw (j - 64 * a) (by omega)
    rw [Nat.zero_testBit, show 64 * a + (j - 64 * a) = j by omega] at this
    simp [h1] at this
    exact this
theorem next_found {n i a W : Nat} {S : Nat → Bool} (hz : ∀ j, i ≤ j → j < 64 * a → S j = false) (hw : WordFrom S i a W) (h0 : W ≠ 0) (hW : W < 18446744073709551616) (hn : ∀ j, n ≤ j → S j = false) :
    IsNext n S (i : Int) ((64 * a + Lib.ctz 64 W : Nat) : Int) := by
  obtain ⟨h1, h2, h3⟩ := ctz_bits W h0 hW
  have h4 := hw _ h1
  rw [h2] at h4
  have h5 : S (64 * a + Lib.ctz 64 W) = true ∧ i ≤ 64 * a + Lib.ctz 64 W := by
    have := h4.symm
    simp at this
    exact this
  refine Or.inr ⟨_, rfl, ?_, by omega, h5.1, fun j hj hk => ?_⟩
  · rcases Nat.lt_or_ge (64 * a + Lib.ctz 64 W) n with h | h
    · exact h
    · have := hn _ h; rw [h5.1] at this; cases this
  · by_cases h6 : j < 64 * a
    · exact hz j (by omega) h6
    · have h7 := hw (j - 64 * a) (by omega)
      rw [h3 _ (by omega), show 64 * a + (j - 64 * a) = j by omega] at h7
      have := h7.symm
      simp at this
      cases hs : S j
      · rfl
      · have := this hs; omega
/-- a word's bits from r on -/
theorem cut_bits (W r j : Nat) : ((W / 2 ^ r * 2 ^ r) % 18446744073709551616).testBit j = (decide (j < 64) && (decide (r ≤ j) && W.testBit j)) := by
  rw [show (18446744073709551616 : Nat) = 2 ^ 64 from rfl, Nat.testBit_mod_two_pow, Nat.testBit_mul_two_pow]
  by_cases h : r ≤ j
  · simp only [h, decide_true, Bool.true_and]
    rw [← Nat.shiftRight_eq_div_pow, Nat.testBit_shiftRight, show r + (j - r) = j by omega]
  · simp [h]
theorem word_first {S : Nat → Bool} {i V : Nat} (h : ∀ j, j < 64 → V.testBit j = S (64 * (i / 64) + j)) : WordFrom S i (i / 64) ((V / 2 ^ (i % 64) * 2 ^ (i % 64)) % 18446744073709551616) := by
  intro j hj
  rw [cut_bits, h j hj]
  simp only [hj, decide_true, Bool.true_and]
  by_cases h2 : i % 64 ≤ j
  · have h3 : i ≤ 64 * (i / 64) + j := by omega
    simp [h2, h3]
  · have h3 : ¬ i ≤ 64 * (i / 64) + j := by omega
    simp [h2, h3]
theorem word_next {S : Nat → Bool} {i a V : Nat} (hi : i ≤ 64 * a) (h : ∀ j, j < 64 → V.testBit j = S (64 * a + j)) : WordFrom S i a V := by
  intro j hj
  rw [h j hj]
  have h3 : i ≤ 64 * a + j := by omega
  simp [h3]
/-- a bit turned -/
theorem xor_bit (W k j : Nat) : (W ^^^ 2 ^ k).testBit j = (W.testBit j ^^ decide (k = j)) := by rw [Nat.testBit_xor, Nat.testBit_two_pow]
theorem xor_lt (W k : Nat) (hW : W < 18446744073709551616) (hk : k < 64) : W ^^^ 2 ^ k < 18446744073709551616 :=
  Nat.xor_lt_two_pow (n := 64) hW (Nat.pow_lt_pow_right (by omega) hk)
end Go.Proofs.YtibopjjicfiimaaGreatDoor
