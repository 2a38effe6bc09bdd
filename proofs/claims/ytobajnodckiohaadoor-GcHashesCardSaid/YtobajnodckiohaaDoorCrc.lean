/- The checksum in plain Lean: bit by bit, by a table's step, and that another byte makes another sum. Nothing of the program. -/
import Derived.KernelRfl
namespace Go.Proofs.YtobajnodckiohaaDoor
/-- one bit of the checksum's register -/
def cstep (x : Nat) : Nat := if x % 2 = 1 then (x / 2) ^^^ 3988292384 else x / 2
def cstep8 (x : Nat) : Nat := cstep (cstep (cstep (cstep (cstep (cstep (cstep (cstep x)))))))
def crcByte (x c : Nat) : Nat := cstep8 (x ^^^ c)
def crcFrom (x : Nat) : List Nat → Nat
  | [] => x
  | c :: l => crcFrom (crcByte x c) l
def crc (l : List Nat) : Nat := crcFrom 4294967295 l ^^^ 4294967295
theorem cstep_lt {x : Nat} (h : x < 4294967296) : cstep x < 4294967296 := by
  unfold cstep
  split
  · exact Nat.xor_lt_two_pow (n := 32) (by omega) (by omega)
  · omega
theorem cstep8_lt {x : Nat} (h : x < 4294967296) : cstep8 x < 4294967296 :=
  cstep_lt (cstep_lt (cstep_lt (cstep_lt (cstep_lt (cstep_lt (cstep_lt (cstep_lt h)))))))
theorem odd_high {x : Nat} (h : x < 4294967296) : ((x / 2) ^^^ 3988292384).testBit 31 = true := by
  rw [Nat.testBit_xor]
  have h1 : (x / 2).testBit 31 = false := Nat.testBit_lt_two_pow (by omega)
  rw [h1]; decide
theorem even_low {x : Nat} (h : x < 4294967296) : (x / 2).testBit 31 = false := Nat.testBit_lt_two_pow (by omega)
theorem xor_cancel {a b p : Nat} (h : a ^^^ p = b ^^^ p) : a = b := by
  have h2 : (a ^^^ p) ^^^ p = (b ^^^ p) ^^^ p := by rw [h]
  rwa [Nat.xor_assoc, Nat.xor_self, Nat.xor_zero, Nat.xor_assoc, Nat.xor_self, Nat.xor_zero] at h2
theorem cstep_inj {x y : Nat} (hx : x < 4294967296) (hy : y < 4294967296) (h : cstep x = cstep y) : x = y := by
  unfold cstep at h
  have ox := odd_high hx
  have oy := odd_high hy
  have ex := even_low hx
  have ey := even_low hy
  split at h <;> split at h
  · have := xor_cancel h; omega
  · rw [h, ey] at ox; cases ox
  · rw [← h, ex] at oy; cases oy
  · omega
theorem cstep8_inj {x y : Nat} (hx : x < 4294967296) (hy : y < 4294967296) (h : cstep8 x = cstep8 y) : x = y := by
  have a1 := cstep_lt hx; have b1 := cstep_lt hy
  have a2 := cstep_lt a1; have b2 := cstep_lt b1
  have a3 := cstep_lt a2; have b3 := cstep_lt b2
  have a4 := cstep_lt a3; have b4 := cstep_lt b3
  have a5 := cstep_lt a4; have b5 := cstep_lt b4
  have a6 := cstep_lt a5; have b6 := cstep_lt b5
  have a7 := cstep_lt a6; have b7 := cstep_lt b6
  exact cstep_inj hx hy (cstep_inj a1 b1 (cstep_inj a2 b2 (cstep_inj a3 b3 (cstep_inj a4 b4 (cstep_inj a5 b5 (cstep_inj a6 b6 (cstep_inj a7 b7 h)))))))
theorem xor_lt32 {x y : Nat} (hx : x < 4294967296) (hy : y < 4294967296) : x ^^^ y < 4294967296 := Nat.xor_lt_two_pow (n := 32) (by omega) (by omega)
theorem crcByte_lt {x c : Nat} (hx : x < 4294967296) (hc : c < 256) : crcByte x c < 4294967296 := cstep8_lt (xor_lt32 hx (by omega))
theorem crcFrom_lt {l : List Nat} : ∀ {x : Nat}, x < 4294967296 → (∀ c ∈ l, c < 256) → crcFrom x l < 4294967296 := by
  induction l with
  | nil => intro x hx _; exact hx
  | cons c l ih => intro x hx hl; exact ih (crcByte_lt hx (hl c (by simp))) (fun d hd => hl d (by simp [hd]))
theorem crcFrom_inj {l : List Nat} : ∀ {x y : Nat}, x < 4294967296 → y < 4294967296 → (∀ c ∈ l, c < 256) → crcFrom x l = crcFrom y l → x = y := by
  induction l with
  | nil => intro x y _ _ _ h; exact h
  | cons c l ih =>
    intro x y hx hy hl h
    have hc := hl c (by simp)
    have h1 := ih (crcByte_lt hx hc) (crcByte_lt hy hc) (fun d hd => hl d (by simp [hd])) h
    exact xor_cancel (cstep8_inj (xor_lt32 hx (by omega)) (xor_lt32 hy (by omega)) h1)
theorem crcFrom_append (l m : List Nat) : ∀ x : Nat, crcFrom x (l ++ m) = crcFrom (crcFrom x l) m := by
  induction l with
  | nil => intro x; rfl
  | cons c l ih => intro x; exact ih _
theorem crcFrom_change {a b : List Nat} {c d x : Nat} (hx : x < 4294967296) (ha : ∀ e ∈ a, e < 256) (hb : ∀ e ∈ b, e < 256) (hc : c < 256) (hd : d < 256) (hne : c ≠ d) :
    crcFrom x (a ++ c :: b) ≠ crcFrom x (a ++ d :: b) := by
  intro h
  rw [crcFrom_append, crcFrom_append] at h
  have hy := crcFrom_lt hx ha
  generalize crcFrom x a = y at *
  have h1 := crcFrom_inj (crcByte_lt hy hc) (crcByte_lt hy hd) hb h
  have h2 := cstep8_inj (xor_lt32 hy (by omega)) (xor_lt32 hy (by omega)) h1
  rw [Nat.xor_comm y c, Nat.xor_comm y d] at h2
  exact hne (xor_cancel h2)
/-- ANOTHER BYTE, ANOTHER SUM. -/
theorem crc_change {a b : List Nat} {c d : Nat} (ha : ∀ e ∈ a, e < 256) (hb : ∀ e ∈ b, e < 256) (hc : c < 256) (hd : d < 256) (hne : c ≠ d) : crc (a ++ c :: b) ≠ crc (a ++ d :: b) :=
  fun h => crcFrom_change (by omega) ha hb hc hd hne (xor_cancel h)
theorem xor_half (a b : Nat) : (a ^^^ b) / 2 = a / 2 ^^^ b / 2 := by
  apply Nat.eq_of_testBit_eq
  intro i
  rw [Nat.testBit_xor, Nat.testBit_div_two, Nat.testBit_div_two, Nat.testBit_div_two, Nat.testBit_xor]
theorem xor_par (a b : Nat) : (a ^^^ b) % 2 = (a + b) % 2 := by
  have h := @Nat.xor_mod_two_eq_one a b
  generalize a ^^^ b = z at *
  by_cases hz : z % 2 = 1
  · have := h.1 hz; omega
  · have h2 : (a % 2 = 1 ↔ b % 2 = 1) := by
      rcases Classical.em (a % 2 = 1 ↔ b % 2 = 1) with h3 | h3
      · exact h3
      · exact absurd (h.2 h3) hz
    omega
theorem cstep_xor (a b : Nat) : cstep (a ^^^ b) = cstep a ^^^ cstep b := by
  unfold cstep
  rw [xor_par, xor_half]
  rcases Nat.mod_two_eq_zero_or_one a with ha | ha <;> rcases Nat.mod_two_eq_zero_or_one b with hb | hb
  · rw [if_neg (by omega), if_neg (by omega), if_neg (by omega)]
  · rw [if_pos (by omega), if_neg (by omega), if_pos (by omega), Nat.xor_assoc]
  · rw [if_pos (by omega), if_pos (by omega), if_neg (by omega), Nat.xor_assoc, Nat.xor_assoc, Nat.xor_comm (b / 2)]
  · rw [if_neg (by omega), if_pos (by omega), if_pos (by omega), Nat.xor_assoc, Nat.xor_comm (b / 2), ← Nat.xor_assoc 3988292384, Nat.xor_self, Nat.zero_xor]
theorem cstep8_xor (a b : Nat) : cstep8 (a ^^^ b) = cstep8 a ^^^ cstep8 b := by
  unfold cstep8
  simp only [cstep_xor]
theorem cstep_even {x : Nat} (h : x % 2 = 0) : cstep x = x / 2 := by unfold cstep; rw [if_neg (by omega)]
theorem cstep8_high (x : Nat) : cstep8 (x * 256) = x := by
  unfold cstep8
  rw [cstep_even (x := x * 256) (by omega), show x * 256 / 2 = x * 128 by omega, cstep_even (x := x * 128) (by omega), show x * 128 / 2 = x * 64 by omega, cstep_even (x := x * 64) (by omega), show x * 64 / 2 = x * 32 by omega,
    cstep_even (x := x * 32) (by omega), show x * 32 / 2 = x * 16 by omega, cstep_even (x := x * 16) (by omega), show x * 16 / 2 = x * 8 by omega, cstep_even (x := x * 8) (by omega), show x * 8 / 2 = x * 4 by omega,
    cstep_even (x := x * 4) (by omega), show x * 4 / 2 = x * 2 by omega, cstep_even (x := x * 2) (by omega)]
  omega
theorem split_256 (x : Nat) : x = (x / 256 * 256) ^^^ (x % 256) := by
  have h : x / 256 * 256 ^^^ x % 256 = x / 256 * 256 + x % 256 := by
    have h1 := Nat.two_pow_add_eq_or_of_lt (i := 8) (b := x % 256) (by omega) (x / 256)
    have h2 : x / 256 * 256 &&& x % 256 = 0 := by
      apply Nat.eq_of_testBit_eq
      intro i
      rw [Nat.testBit_and, Nat.zero_testBit]
      by_cases hi : i < 8
      · have : (x / 256 * 256).testBit i = false := by
          rw [show x / 256 * 256 = 2 ^ 8 * (x / 256) by omega, Nat.testBit_two_pow_mul]
          simp; omega
        rw [this]; rfl
      · have : (x % 256).testBit i = false := Nat.testBit_lt_two_pow (Nat.lt_of_lt_of_le (show x % 256 < 2 ^ 8 by omega) (Nat.pow_le_pow_right (by omega) (by omega)))
        rw [this]; simp
    rw [show x / 256 * 256 = 2 ^ 8 * (x / 256) by omega] at h2 ⊢
    have h3 : 2 ^ 8 * (x / 256) ^^^ x % 256 = 2 ^ 8 * (x / 256) ||| x % 256 := by
      apply Nat.eq_of_testBit_eq
      intro i
      have h4 := congrArg (fun z => Nat.testBit z i) h2
      simp only [Nat.testBit_and, Nat.zero_testBit] at h4
      rw [Nat.testBit_xor, Nat.testBit_or]
      cases ha : (2 ^ 8 * (x / 256)).testBit i <;> cases hb : (x % 256).testBit i <;> simp [ha, hb] at h4 ⊢
    rw [h3]; omega
  omega
/-- the step by a table: what the register's upper bits become, and what its lowest ones, with the byte, become -/
theorem crcByte_table {x c : Nat} : crcByte x c = (x / 256) ^^^ cstep8 ((x % 256) ^^^ c) := by
  unfold crcByte
  have h : x ^^^ c = (x / 256 * 256) ^^^ ((x % 256) ^^^ c) := by
    rw [← Nat.xor_assoc, ← split_256]
  rw [h, cstep8_xor, cstep8_high]
end Go.Proofs.YtobajnodckiohaaDoor
