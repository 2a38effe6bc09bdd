/- The checksum in plain Lean: bit by bit, by a table's step, and that another byte makes another sum. Nothing of the program. Plain laws of counting: how many of the numbers below n are in a set; the bits of a word. -/
import Derived.KernelRfl
namespace Go.Proofs.YtibopjjicfiimaaGreatDoor
/-- one bit of the checksum's register -/
def cstep (x : Nat) : Nat := if x % 2 = 1 then (x / 2) ^^^ 3988292384 else x / 2
def cstep8 (x : Nat) : Nat := cstep (cstep (cstep (cstep (cstep (cstep (cstep (cstep x)))))))
def crcByte (x c : Nat) : Nat := cstep8 (x ^^^ c)
def crcFrom (x : Nat) : List Nat → Nat
  | [] => x
  | c :: l => crcFrom (crcByte x c) l
def crc (l : List Nat) : Nat := crcFrom 4294967295 l ^^^ 4294967295
theorem cstep_lt {x : Nat} (h : x < 4294967296) : cstep x < 4294967296 := by
  unfold cstep
  split
  · exact Nat.xor_lt_two_pow (n := 32) (by omega) (by omega)
  · omega
theorem cstep8_lt {x : Nat} (h : x < 4294967296) : cstep8 x < 4294967296 :=
  cstep_lt (cstep_lt (cstep_lt (cstep_lt (cstep_lt (cstep_lt (cstep_lt (cstep_lt h)))))))
theorem odd_high {x : Nat} (h : x < 4294967296) : ((x / 2) ^^^ 3988292384).testBit 31 = true := by
  rw [Nat.testBit_xor]
  have h1 : (x / 2).testBit 31 = false := Nat.testBit_lt_two_pow (by omega)
  rw [h1]; decide
theorem even_low {x : Nat} (h : x < 4294967296) : (x / 2).testBit 31 = false := Nat.testBit_lt_two_pow (by omega)
theorem xor_cancel {a b p : Nat} (h : a ^^^ p = b ^^^ p) : a = b := by
  have h2 : (a ^^^ p) ^^^ p = (b ^^^ p) ^^^ p := by rw [h]
  rwa [Nat.xor_assoc, Nat.xor_self, Nat.xor_zero, Nat.xor_assoc, Nat.xor_self, Nat.xor_zero] at h2
theorem cstep_inj {x y : Nat} (hx : x < 4294967296) (hy : y < 4294967296) (h : cstep x = cstep y) : x = y := by
  unfold cstep at h
  have ox := odd_high hx
  have oy := odd_high hy
  have ex := even_low hx
  have ey := even_low hy
  split at h <;> split at h
  · have := xor_cancel h; omega
  · rw [h, ey] at ox; cases ox
  · rw [← h, ex] at oy; cases oy
  · omega
theorem cstep8_inj {x y : Nat} (hx : x < 4294967296) (hy : y < 4294967296) (h : cstep8 x = cstep8 y) : x = y := by
  have a1 := cstep_lt hx; have b1 := cstep_lt hy
  have a2 := cstep_lt a1; have b2 := cstep_lt b1
  have a3 := cstep_lt a2; have b3 := cstep_lt b2
  have a4 := cstep_lt a3; have b4 := cstep_lt b3
  have a5 := cstep_lt a4; have b5 := cstep_lt b4
  have a6 := cstep_lt a5; have b6 := cstep_lt b5
  have a7 := cstep_lt a6; have b7 := cstep_lt b6
  exact cstep_inj hx hy (cstep_inj a1 b1 (cstep_inj a2 b2 (cstep_inj a3 b3 (cstep_inj a4 b4 (cstep_inj a5 b5 (cstep_inj a6 b6 (cstep_inj a7 b7 h)))))))
theorem xor_lt32 {x y : Nat} (hx : x < 4294967296) (hy : y < 4294967296) : x ^^^ y < 4294967296 := Nat.xor_lt_two_pow (n := 32) (by omega) (by omega)
theorem crcByte_lt {x c : Nat} (hx : x < 4294967296) (hc : c < 256) : crcByte x c < 4294967296 := cstep8_lt (xor_lt32 hx (by omega))
theorem crcFrom_lt {l : List Nat} : ∀ {x : Nat}, x < 4294967296 → (∀ c ∈ l, c < 256) → crcFrom x l < 4294967296 := by
  induction l with
  | nil => intro x hx _; exact hx
  | cons c l ih => intro x hx hl; exact ih (crcByte_lt hx (hl c (by simp))) (fun d hd => hl d (by simp [hd]))
theorem crcFrom_inj {l : List Nat} : ∀ {x y : Nat}, x < 4294967296 → y < 4294967296 → (∀ c ∈ l, c < 256) → crcFrom x l = crcFrom y l → x = y := by
  induction l with
  | nil => intro x y _ _ _ h; exact h
  | cons c l ih =>
    intro x y hx hy hl h
    have hc := hl c (by simp)
    have h1 := ih (crcByte_lt hx hc) (crcByte_lt hy hc) (fun d hd => hl d (by simp [hd])) h
    exact xor_cancel (cstep8_inj (xor_lt32 hx (by omega)) (xor_lt32 hy (by omega)) h1)
theorem crcFrom_append (l m : List Nat) : ∀ x : Nat, crcFrom x (l ++ m) = crcFrom (crcFrom x l) m := by
  induction l with
  | nil => intro x; rfl
  | cons c l ih => intro x; exact ih _
theorem crcFrom_change {a b : List Nat} {c d x : Nat} (hx : x < 4294967296) (ha : ∀ e ∈ a, e < 256) (hb : ∀ e ∈ b, e < 256) (hc : c < 256) (hd : d < 256) (hne : c ≠ d) :
    crcFrom x (a ++ c :: b) ≠ crcFrom x (a ++ d :: b) := by
  intro h
  rw [crcFrom_append, crcFrom_append] at h
  have hy := crcFrom_lt hx ha
  generalize crcFrom x a = y at *
  have h1 := crcFrom_inj (crcByte_lt hy hc) (crcByte_lt hy hd) hb h
  have h2 := cstep8_inj (xor_lt32 hy (by omega)) (xor_lt32 hy (by omega)) h1
  rw [Nat.xor_comm y c, Nat.xor_comm y d] at h2
  exact hne (xor_cancel h2)
/-- ANOTHER BYTE, ANOTHER SUM. -/
theorem crc_change {a b : List Nat} {c d : Nat} (ha : ∀ e ∈ a, e < 256) (hb : ∀ e ∈ b, e < 256) (hc : c < 256) (hd : d < 256) (hne : c ≠ d) : crc (a ++ c :: b) ≠ crc (a ++ d :: b) :=
  fun h => crcFrom_change (by omega) ha hb hc hd hne (xor_cancel h)
theorem xor_half (a b : Nat) : (a ^^^ b) / 2 = a / 2 ^^^ b / 2 := by
  apply Nat.eq_of_testBit_eq
  intro i
  rw [Nat.testBit_xor, Nat.testBit_div_two, Nat.testBit_div_two, Nat.testBit_div_two, Nat.testBit_xor]
theorem xor_par (a b : Nat) : (a ^^^ b) % 2 = (a + b) % 2 := by
  have h := @Nat.xor_mod_two_eq_one a b
  generalize a ^^^ b = z at *
  by_cases hz : z % 2 = 1
  · have := h.1 hz; omega
  · have h2 : (a % 2 = 1 ↔ b % 2 = 1) := by
      rcases Classical.em (a % 2 = 1 ↔ b % 2 = 1) with h3 | h3
      · exact h3
      · exact absurd (h.2 h3) hz
    omega
theorem cstep_xor (a b : Nat) : cstep (a ^^^ b) = cstep a ^^^ cstep b := by
  unfold cstep
  rw [xor_par, xor_half]
  rcases Nat.mod_two_eq_zero_or_one a with ha | ha <;> rcases Nat.mod_two_eq_zero_or_one b with hb | hb
  · rw [if_neg (by omega), if_neg (by omega), if_neg (by omega)]
  · rw [if_pos (by omega), if_neg (by omega), if_pos (by omega), Nat.xor_assoc]
  · rw [if_pos (by omega), if_pos (by omega), if_neg (by omega), Nat.xor_assoc, Nat.xor_assoc, Nat.xor_comm (b / 2)]
  · rw [if_neg (by omega), if_pos (by omega), if_pos (by omega), Nat.xor_assoc, Nat.xor_comm (b / 2), ← Nat.xor_assoc 3988292384, Nat.xor_self, Nat.zero_xor]
theorem cstep8_xor (a b : Nat) : cstep8 (a ^^^ b) = cstep8 a ^^^ cstep8 b := by
  unfold cstep8
  simp only [cstep_xor]
theorem cstep_even {x : Nat} (h : x % 2 = 0) : cstep x = x / 2 := by unfold cstep; rw [if_neg (by omega)]
theorem cstep8_high (x : Nat) : cstep8 (x * 256) = x := by
  unfold cstep8
  rw [cstep_even (x := x * 256) (by omega), show x * 256 / 2 = x * 128 by omega, cstep_even (x := x * 128) (by omega), show x * 128 / 2 = x * 64 by omega, cstep_even (x := x * 64) (by omega), show x * 64 / 2 = x * 32 by omega,
    cstep_even (x := x * 32) (by omega), show x * 32 / 2 = x * 16 by omega, cstep_even (x := x * 16) (by omega), show x * 16 / 2 = x * 8 by omega, cstep_even (x := x * 8) (by omega), show x * 8 / 2 = x * 4 by omega,
    cstep_even (x := x * 4) (by omega), show x * 4 / 2 = x * 2 by omega, cstep_even (x := x * 2) (by omega)]
  omega
theorem split_256 (x : Nat) : x = (x / 256 * 256) ^^^ (x % 256) := by
  have h : x / 256 * 256 ^^^ x % 256 = x / 256 * 256 + x % 256 := by
    have h1 := Nat.two_pow_add_eq_or_of_lt (i := 8) (b := x % 256) (by omega) (x / 256)
    have h2 : x / 256 * 256 &&& x % 256 = 0 := by
      apply Nat.eq_of_testBit_eq
      intro i
      rw [Nat.testBit_and, Nat.zero_testBit]
      by_cases hi : i < 8
      · have : (x / 256 * 256).testBit i = false := by
          rw [show x / 256 * 256 = 2 ^ 8 * (x / 256) by omega, Nat.testBit_two_pow_mul]
          simp; omega
        rw [this]; rfl
      · have : (x % 256).testBit i = false := Nat.testBit_lt_two_pow (Nat.lt_of_lt_of_le (show x % 256 < 2 ^ 8 by omega) (Nat.pow_le_pow_right (by omega) (by omega)))
        rw [this]; simp
    rw [show x / 256 * 256 = 2 ^ 8 * (x / 256) by omega] at h2 ⊢
    have h3 : 2 ^ 8 * (x / 256) ^^^ x % 256 = 2 ^ 8 * (x / 256) ||| x % 256 := by
      apply Nat.eq_of_testBit_eq
      intro i
      have h4 := congrArg (fun z => Nat.testBit z i) h2
      simp only [Nat.testBit_and, Nat.zero_testBit] at h4
      rw [Nat.testBit_xor, Nat.testBit_or]
      cases ha : (2 ^ 8 * (x / 256)).testBit i <;> cases hb : (x % 256).testBit i <;> simp [ha, hb] at h4 ⊢
    rw [h3]; omega
  omega
/-- the step by a table: what the register's upper bits become, and what its lowest ones, with the byte, become -/
theorem crcByte_table {x c : Nat} : crcByte x c = (x / 256) ^^^ cstep8 ((x % 256) ^^^ c) := by
  unfold crcByte
  have h : x ^^^ c = (x / 256 * 256) ^^^ ((x % 256) ^^^ c) := by
    rw [← Nat.xor_assoc, ← split_256]
  rw [h, cstep8_xor, cstep8_high]
end Go.Proofs.YtibopjjicfiimaaGreatDoor
namespace Go.Proofs.YtibopjjicfiimaaGreatDoor
/-- how many below n -/
def cnt (S : Nat → Bool) : Nat → Nat
  | 0 => 0
  | n + 1 => cnt S n + (S n).toNat
theorem cnt_le (S : Nat → Bool) (n : Nat) : cnt S n ≤ n := by
  induction n with
  | zero => exact Nat.le_refl _
  | succ n ih => unfold cnt; have := Bool.toNat_le (S n); omega
theorem cnt_add (S : Nat → Bool) (m n : Nat) : cnt S (m + n) = cnt S m + cnt (fun j => S (m + j)) n := by
  induction n with
  | zero => rfl
  | succ n ih => show cnt S (m + n) + (S (m + n)).toNat = cnt S m + (cnt (fun j => S (m + j)) n + (S (m + n)).toNat); rw [ih]; omega
theorem cnt_congr {S T : Nat → Bool} {n : Nat} (h : ∀ j, j < n → S j = T j) : cnt S n = cnt T n := by
  induction n with
  | zero => rfl
  | succ n ih => unfold cnt; rw [ih (fun j hj => h j (by omega)), h n (by omega)]
theorem cnt_none {S : Nat → Bool} {n : Nat} (h : ∀ j, j < n → S j = false) : cnt S n = 0 := by
  induction n with
  | zero => rfl
  | succ n ih => unfold cnt; rw [ih (fun j hj => h j (by omega)), h n (by omega)]; rfl
/-- the lowest r bits, laid at the top -/
theorem cnt_high (V r : Nat) (hr : r ≤ 64) : cnt ((V * 2 ^ (64 - r)) % 18446744073709551616).testBit 64 = cnt V.testBit r := by
  have h : (64 : Nat) = (64 - r) + r := by omega
  conv => lhs; arg 2; rw [h]
  rw [cnt_add]
  rw [cnt_none (n := 64 - r), Nat.zero_add]
  · refine cnt_congr fun j hj => ?_
    rw [show (18446744073709551616 : Nat) = 2 ^ 64 from rfl, Nat.testBit_mod_two_pow, Nat.testBit_mul_two_pow]
    have h1 : 64 - r + j < 64 := by omega
    have h2 : 64 - r ≤ 64 - r + j := by omega
    have h3 : 64 - r + j - (64 - r) = j := by omega
    simp [h1, h3]
  · intro j hj
    rw [show (18446744073709551616 : Nat) = 2 ^ 64 from rfl, Nat.testBit_mod_two_pow, Nat.testBit_mul_two_pow]
    have h1 : ¬ 64 - r ≤ j := by omega
    simp [h1]
/-- a byte laid under others -/
theorem and_split (a c p q : Nat) (ha : a < 256) (hp : p < 256) : (a + 256 * c) &&& (p + 256 * q) = (a &&& p) + 256 * (c &&& q) := by
  have h1 : ((a + 256 * c) &&& (p + 256 * q)) / 256 = c &&& q := by
    have := Nat.shiftRight_and_distrib (a := a + 256 * c) (b := p + 256 * q) (i := 8)
    simp only [Nat.shiftRight_eq_div_pow] at this
    rw [show (2 : Nat) ^ 8 = 256 from rfl] at this
    rw [this, show (a + 256 * c) / 256 = c by omega, show (p + 256 * q) / 256 = q by omega]
  have h2 : ((a + 256 * c) &&& (p + 256 * q)) % 256 = a &&& p := by
    have := Nat.and_mod_two_pow (a := a + 256 * c) (b := p + 256 * q) (n := 8)
    rw [show (2 : Nat) ^ 8 = 256 from rfl] at this
    rw [this, show (a + 256 * c) % 256 = a by omega, show (p + 256 * q) % 256 = p by omega]
  omega
def pop2 (x : Nat) : Nat := (x / 2 &&& 85) + (x &&& 85)
def pop4 (x : Nat) : Nat := (x / 4 &&& 51) + (x &&& 51)
def pop8 (x : Nat) : Nat := (x / 16 + x) &&& 15
theorem byte_pop2 : ∀ a, a < 256 → pop2 a < 256 ∧ pop4 (pop2 a) < 256 ∧ pop2 a % 4 ≤ 2 ∧ pop8 (pop4 (pop2 a)) = cnt a.testBit 8 := by decide +kernel
theorem half_and (a d : Nat) (ha : a < 256) : (a / 2 + 128 * (d % 2)) &&& 85 = a / 2 &&& 85 := by
  have : ∀ a, a < 256 → ∀ e, e < 2 → (a / 2 + 128 * e) &&& 85 = a / 2 &&& 85 := by decide +kernel
  exact this a ha _ (by omega)
theorem quarter_and (a d : Nat) (ha : a < 256) : (a / 4 + 64 * (d % 4)) &&& 51 = a / 4 &&& 51 := by
  have : ∀ a, a < 256 → ∀ e, e < 4 → (a / 4 + 64 * e) &&& 51 = a / 4 &&& 51 := by decide +kernel
  exact this a ha _ (by omega)
/-- the first step, byte by byte -/
def step2 (q x : Nat) : Nat := (x / 2 &&& q) + (x &&& q)
def step4 (q x : Nat) : Nat := (x / 4 &&& q) + (x &&& q)
def step8 (q x : Nat) : Nat := (x / 16 + x) &&& q
theorem step2_split (a c q : Nat) (ha : a < 256) : step2 (85 + 256 * q) (a + 256 * c) = pop2 a + 256 * step2 q c := by
  unfold step2 pop2
  have e : (a + 256 * c) / 2 = (a / 2 + 128 * (c % 2)) + 256 * (c / 2) := by omega
  rw [e, and_split _ _ _ _ (by omega) (by omega), and_split _ _ _ _ ha (by omega), half_and _ _ ha]
  omega
theorem step4_split (a c q : Nat) (ha : a < 256) : step4 (51 + 256 * q) (a + 256 * c) = pop4 a + 256 * step4 q c := by
  unfold step4 pop4
  have e : (a + 256 * c) / 4 = (a / 4 + 64 * (c % 4)) + 256 * (c / 4) := by omega
  rw [e, and_split _ _ _ _ (by omega) (by omega), and_split _ _ _ _ ha (by omega), quarter_and _ _ ha]
  omega
/-- a byte of nibbles that are small: the third step, byte by byte -/
def small4 (a : Nat) : Prop := a < 256 ∧ a % 16 ≤ 4 ∧ a / 16 ≤ 4
theorem step8_cons (a c q : Nat) (ha : small4 a) (hc : c % 16 ≤ 4) : step8 (15 + 256 * q) (a + 256 * c) = pop8 a + 256 * step8 q c := by
  unfold step8 pop8
  obtain ⟨h1, h2, h3⟩ := ha
  have e : (a + 256 * c) / 16 + (a + 256 * c) = (a / 16 + 16 * (c % 16) + a) + 256 * (c / 16 + c) := by omega
  rw [e]
  have hb : a / 16 + 16 * (c % 16) + a < 256 := by omega
  rw [and_split _ _ _ _ hb (by omega)]
  congr 1
  have key : ∀ a, a < 256 → a % 16 ≤ 4 → a / 16 ≤ 4 → ∀ d, d < 5 → (a / 16 + 16 * d + a) &&& 15 = (a / 16 + a) &&& 15 := by decide +kernel
  exact key a h1 h2 h3 _ (by omega)
theorem byte_small : ∀ a, a < 256 → pop4 (pop2 a) < 256 ∧ pop4 (pop2 a) % 16 ≤ 4 ∧ pop4 (pop2 a) / 16 ≤ 4 ∧ pop2 a < 256 ∧ pop8 (pop4 (pop2 a)) = cnt a.testBit 8 := by decide +kernel
/-- the three steps, byte by byte -/
theorem swar_cons (a c q2 q4 q8 : Nat) (ha : a < 256) (hc : step4 q4 (step2 q2 c) % 16 ≤ 4) :
    step8 (15 + 256 * q8) (step4 (51 + 256 * q4) (step2 (85 + 256 * q2) (a + 256 * c))) = cnt a.testBit 8 + 256 * step8 q8 (step4 q4 (step2 q2 c)) := by
  obtain ⟨h1, h2, h3, h4, h5⟩ := byte_small a ha
  rw [step2_split _ _ _ ha, step4_split _ _ _ h4, step8_cons _ _ _ ⟨h1, h2, h3⟩ hc, h5]
theorem swar_low (a c q2 q4 : Nat) (ha : a < 256) : step4 (51 + 256 * q4) (step2 (85 + 256 * q2) (a + 256 * c)) % 16 ≤ 4 := by
  obtain ⟨h1, h2, h3, h4, h5⟩ := byte_small a ha
  rw [step2_split _ _ _ ha, step4_split _ _ _ h4]
  omega
/-- a word's bits, byte by byte -/
theorem cnt_byte (x : Nat) (n : Nat) : cnt x.testBit (8 + n) = cnt (x % 256).testBit 8 + cnt (x / 256).testBit n := by
  rw [cnt_add]
  congr 1
  · refine cnt_congr fun j hj => ?_
    rw [show (256 : Nat) = 2 ^ 8 from rfl, Nat.testBit_mod_two_pow]
    simp [hj]
  · refine cnt_congr fun j _ => ?_
    rw [show (256 : Nat) = 2 ^ 8 from rfl, ← Nat.shiftRight_eq_div_pow, Nat.testBit_shiftRight]
def mk (b : Nat) : Nat → Nat
  | 0 => 0
  | n + 1 => b + 256 * mk b n
def packed : Nat → Nat → Nat
  | 0, _ => 0
  | n + 1, x => cnt (x % 256).testBit 8 + 256 * packed n (x / 256)
def csum : Nat → Nat → Nat
  | 0, _ => 0
  | n + 1, x => cnt (x % 256).testBit 8 + csum n (x / 256)
theorem step2_0 (q : Nat) : step2 0 q = 0 := by simp [step2]
theorem step4_0 (q : Nat) : step4 0 q = 0 := by simp [step4]
theorem step8_0 (q : Nat) : step8 0 q = 0 := by simp [step8]
theorem low_mk (n x : Nat) : step4 (mk 51 n) (step2 (mk 85 n) x) % 16 ≤ 4 := by
  cases n with
  | zero => show step4 0 _ % 16 ≤ 4; rw [step4_0]; omega
  | succ n =>
    have e : x = x % 256 + 256 * (x / 256) := by omega
    rw [e]
    exact swar_low (x % 256) (x / 256) (mk 85 n) (mk 51 n) (by omega)
theorem packed_mk (n : Nat) : ∀ x, step8 (mk 15 n) (step4 (mk 51 n) (step2 (mk 85 n) x)) = packed n x := by
  induction n with
  | zero => intro x; exact step8_0 _
  | succ n ih =>
    intro x
    have e : x = x % 256 + 256 * (x / 256) := by omega
    conv => lhs; rw [e]
    show step8 (15 + 256 * mk 15 n) (step4 (51 + 256 * mk 51 n) (step2 (85 + 256 * mk 85 n) (x % 256 + 256 * (x / 256)))) = _
    rw [swar_cons _ _ _ _ _ (by omega) (low_mk n _), ih]
    rfl
theorem csum_cnt (n : Nat) : ∀ x, cnt x.testBit (8 * n) = csum n x := by
  induction n with
  | zero => intro x; rfl
  | succ n ih =>
    intro x
    rw [show 8 * (n + 1) = 8 + 8 * n by omega, cnt_byte, ih]
    rfl
def swar (x : Nat) : Nat := step8 1085102592571150095 (step4 3689348814741910323 (step2 6148914691236517205 x))
theorem swar_eq (x : Nat) : ∃ p0 p1 p2 p3 p4 p5 p6 p7 : Nat, p0 ≤ 8 ∧ p1 ≤ 8 ∧ p2 ≤ 8 ∧ p3 ≤ 8 ∧ p4 ≤ 8 ∧ p5 ≤ 8 ∧ p6 ≤ 8 ∧ p7 ≤ 8 ∧
    swar x = p0 + 256 * (p1 + 256 * (p2 + 256 * (p3 + 256 * (p4 + 256 * (p5 + 256 * (p6 + 256 * p7)))))) ∧ cnt x.testBit 64 = p0 + (p1 + (p2 + (p3 + (p4 + (p5 + (p6 + p7)))))) := by
  have h1 : swar x = packed 8 x := by rw [← packed_mk 8 x]; rfl
  have h2 : cnt x.testBit 64 = csum 8 x := csum_cnt 8 x
  rw [h1, h2]
  exact ⟨_, _, _, _, _, _, _, _, cnt_le _ _, cnt_le _ _, cnt_le _ _, cnt_le _ _, cnt_le _ _, cnt_le _ _, cnt_le _ _, cnt_le _ _, rfl, rfl⟩
theorem div_lem {r m : Nat} (D : Nat) (h : r < m) : (r + m * D) / m = D := by
  rw [Nat.add_mul_div_left _ _ (by omega), Nat.div_eq_of_lt h, Nat.zero_add]
theorem up1 (a : Nat) (h : a < 2305843009213693952) : a + a / 256 < 4611686018427387904 := by omega
theorem up2 (a : Nat) (h : a < 4611686018427387904) : a + a / 65536 < 9223372036854775808 := by omega
theorem up3 (a : Nat) (h : a < 9223372036854775808) : a + a / 4294967296 < 18446744073709551616 := by omega
theorem sum8 {p0 p1 p2 p3 p4 p5 p6 p7 : Nat} (b0 : p0 ≤ 8) (b1 : p1 ≤ 8) (b2 : p2 ≤ 8) (b3 : p3 ≤ 8) (b4 : p4 ≤ 8) (b5 : p5 ≤ 8) (b6 : p6 ≤ 8) (b7 : p7 ≤ 8) : p0 + (p1 + (p2 + (p3 + (p4 + (p5 + (p6 + p7)))))) ≤ 64 := by omega
theorem mod128 {t Z : Nat} (h : t ≤ 64) : (t + 256 * Z) % 128 = t := by omega
theorem lin1 (p0 p1 p2 p3 p4 p5 p6 p7 : Nat) : p0 + 256 * (p1 + 256 * (p2 + 256 * (p3 + 256 * (p4 + 256 * (p5 + 256 * (p6 + 256 * p7)))))) + (p1 + 256 * (p2 + 256 * (p3 + 256 * (p4 + 256 * (p5 + 256 * (p6 + 256 * p7)))))) = ((p0 + p1) + 256 * (p1 + p2)) + 65536 * ((p2 + p3) + 256 * ((p3 + p4) + 256 * ((p4 + p5) + 256 * ((p5 + p6) + 256 * ((p6 + p7) + 256 * p7))))) := by omega
theorem lin2 (p0 p1 p2 p3 p4 p5 p6 p7 : Nat) : ((p0 + p1) + 256 * (p1 + p2)) + 65536 * ((p2 + p3) + 256 * ((p3 + p4) + 256 * ((p4 + p5) + 256 * ((p5 + p6) + 256 * ((p6 + p7) + 256 * p7))))) + ((p2 + p3) + 256 * ((p3 + p4) + 256 * ((p4 + p5) + 256 * ((p5 + p6) + 256 * ((p6 + p7) + 256 * p7))))) = ((p0 + p1 + p2 + p3) + 256 * ((p1 + p2 + p3 + p4) + 256 * ((p2 + p3 + p4 + p5) + 256 * (p3 + p4 + p5 + p6)))) + 4294967296 * ((p4 + p5 + p6 + p7) + 256 * ((p5 + p6 + p7) + 256 * ((p6 + p7) + 256 * p7))) := by omega
theorem lin3 (p0 p1 p2 p3 p4 p5 p6 p7 : Nat) : ((p0 + p1 + p2 + p3) + 256 * ((p1 + p2 + p3 + p4) + 256 * ((p2 + p3 + p4 + p5) + 256 * (p3 + p4 + p5 + p6)))) + 4294967296 * ((p4 + p5 + p6 + p7) + 256 * ((p5 + p6 + p7) + 256 * ((p6 + p7) + 256 * p7))) + ((p4 + p5 + p6 + p7) + 256 * ((p5 + p6 + p7) + 256 * ((p6 + p7) + 256 * p7))) = (p0 + (p1 + (p2 + (p3 + (p4 + (p5 + (p6 + p7))))))) + 256 * (((p1 + p2 + p3 + p4) + 256 * ((p2 + p3 + p4 + p5) + 256 * (p3 + p4 + p5 + p6))) + 16777216 * ((p4 + p5 + p6 + p7) + 256 * ((p5 + p6 + p7) + 256 * ((p6 + p7) + 256 * p7))) + ((p5 + p6 + p7) + 256 * ((p6 + p7) + 256 * p7))) := by omega
theorem bnd0 {p0 p1 p2 p3 p4 p5 p6 p7 : Nat} (b0 : p0 ≤ 8) (b1 : p1 ≤ 8) (b2 : p2 ≤ 8) (b3 : p3 ≤ 8) (b4 : p4 ≤ 8) (b5 : p5 ≤ 8) (b6 : p6 ≤ 8) (b7 : p7 ≤ 8) : p0 + 256 * (p1 + 256 * (p2 + 256 * (p3 + 256 * (p4 + 256 * (p5 + 256 * (p6 + 256 * p7)))))) < 2305843009213693952 := by omega
theorem bnd1 {p0 p1 p2 : Nat} (b0 : p0 ≤ 8) (b1 : p1 ≤ 8) (b2 : p2 ≤ 8) : ((p0 + p1) + 256 * (p1 + p2)) < 65536 := by omega
theorem bnd2 {p0 p1 p2 p3 p4 p5 p6 : Nat} (b0 : p0 ≤ 8) (b1 : p1 ≤ 8) (b2 : p2 ≤ 8) (b3 : p3 ≤ 8) (b4 : p4 ≤ 8) (b5 : p5 ≤ 8) (b6 : p6 ≤ 8) : ((p0 + p1 + p2 + p3) + 256 * ((p1 + p2 + p3 + p4) + 256 * ((p2 + p3 + p4 + p5) + 256 * (p3 + p4 + p5 + p6)))) < 4294967296 := by omega
/-- eight small bytes: two, four, eight are summed in the lowest -/
theorem fold8 (p0 p1 p2 p3 p4 p5 p6 p7 y : Nat) (e : y = p0 + 256 * (p1 + 256 * (p2 + 256 * (p3 + 256 * (p4 + 256 * (p5 + 256 * (p6 + 256 * p7))))))) (b0 : p0 ≤ 8) (b1 : p1 ≤ 8) (b2 : p2 ≤ 8) (b3 : p3 ≤ 8) (b4 : p4 ≤ 8) (b5 : p5 ≤ 8) (b6 : p6 ≤ 8) (b7 : p7 ≤ 8) :
    ∃ y1, y1 = y + y / 256 ∧ y1 < 18446744073709551616 ∧ ∃ y2, y2 = y1 + y1 / 65536 ∧ y2 < 18446744073709551616 ∧ ∃ y3, y3 = y2 + y2 / 4294967296 ∧ y3 < 18446744073709551616 ∧ y3 % 128 = (p0 + (p1 + (p2 + (p3 + (p4 + (p5 + (p6 + p7))))))) := by
  have hy : y < 2305843009213693952 := by rw [e]; exact bnd0 b0 b1 b2 b3 b4 b5 b6 b7
  have q0 : y / 256 = p1 + 256 * (p2 + 256 * (p3 + 256 * (p4 + 256 * (p5 + 256 * (p6 + 256 * p7))))) := by rw [e]; exact div_lem _ (Nat.lt_of_le_of_lt b0 (by decide))
  have e1 : y + y / 256 = ((p0 + p1) + 256 * (p1 + p2)) + 65536 * ((p2 + p3) + 256 * ((p3 + p4) + 256 * ((p4 + p5) + 256 * ((p5 + p6) + 256 * ((p6 + p7) + 256 * p7))))) := by rw [q0, e]; exact lin1 ..
  have hb1 := up1 y hy
  generalize y + y / 256 = y1 at *
  have q1 : y1 / 65536 = ((p2 + p3) + 256 * ((p3 + p4) + 256 * ((p4 + p5) + 256 * ((p5 + p6) + 256 * ((p6 + p7) + 256 * p7))))) := by rw [e1]; exact div_lem _ (bnd1 b0 b1 b2)
  have e2 : y1 + y1 / 65536 = ((p0 + p1 + p2 + p3) + 256 * ((p1 + p2 + p3 + p4) + 256 * ((p2 + p3 + p4 + p5) + 256 * (p3 + p4 + p5 + p6)))) + 4294967296 * ((p4 + p5 + p6 + p7) + 256 * ((p5 + p6 + p7) + 256 * ((p6 + p7) + 256 * p7))) := by rw [q1, e1]; exact lin2 ..
  have hb2 := up2 y1 hb1
  refine ⟨y1, rfl, Nat.lt_trans hb1 (by decide), ?_⟩
  generalize y1 + y1 / 65536 = y2 at *
  have q2 : y2 / 4294967296 = ((p4 + p5 + p6 + p7) + 256 * ((p5 + p6 + p7) + 256 * ((p6 + p7) + 256 * p7))) := by rw [e2]; exact div_lem _ (bnd2 b0 b1 b2 b3 b4 b5 b6)
  have e3 : y2 + y2 / 4294967296 = (p0 + (p1 + (p2 + (p3 + (p4 + (p5 + (p6 + p7))))))) + 256 * (((p1 + p2 + p3 + p4) + 256 * ((p2 + p3 + p4 + p5) + 256 * (p3 + p4 + p5 + p6))) + 16777216 * ((p4 + p5 + p6 + p7) + 256 * ((p5 + p6 + p7) + 256 * ((p6 + p7) + 256 * p7))) + ((p5 + p6 + p7) + 256 * ((p6 + p7) + 256 * p7))) := by rw [q2, e2]; exact lin3 ..
  have hb3 := up3 y2 hb2
  refine ⟨y2, rfl, Nat.lt_trans hb2 (by decide), ?_⟩
  generalize y2 + y2 / 4294967296 = y3 at *
  refine ⟨y3, rfl, hb3, ?_⟩
  rw [e3]
  exact mod128 (sum8 b0 b1 b2 b3 b4 b5 b6 b7)
theorem swar_sum (x : Nat) : ∃ y, swar x = y ∧ y < 18446744073709551616 ∧
    ∃ y1, y1 = y + y / 256 ∧ y1 < 18446744073709551616 ∧ ∃ y2, y2 = y1 + y1 / 65536 ∧ y2 < 18446744073709551616 ∧ ∃ y3, y3 = y2 + y2 / 4294967296 ∧ y3 < 18446744073709551616 ∧ y3 % 128 = cnt x.testBit 64 := by
  obtain ⟨p0, p1, p2, p3, p4, p5, p6, p7, b0, b1, b2, b3, b4, b5, b6, b7, e, ec⟩ := swar_eq x
  have hy : swar x < 18446744073709551616 := by rw [e]; exact Nat.lt_trans (bnd0 b0 b1 b2 b3 b4 b5 b6 b7) (by decide)
  rw [ec]
  exact ⟨_, rfl, hy, fold8 p0 p1 p2 p3 p4 p5 p6 p7 _ e b0 b1 b2 b3 b4 b5 b6 b7⟩
end Go.Proofs.YtibopjjicfiimaaGreatDoor
