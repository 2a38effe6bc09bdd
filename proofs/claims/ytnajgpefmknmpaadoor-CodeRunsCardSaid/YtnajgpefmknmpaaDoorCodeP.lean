/- Instructions as bytes, in plain Lean. Nothing of the program. -/
import Derived.KernelRfl
namespace Go.Proofs.YtnajgpefmknmpaaDoor
/-- a form: its name's bytes, A's bytes, whether A has a sign, B's bytes -/
structure Fm where
  name : List UInt8
  a : Nat
  sg : Bool
  b : Nat
deriving DecidableEq
/-- an instruction -/
structure Ins where
  op : Int
  a : Int
  b : Int
deriving DecidableEq
def fmT : List Fm := [⟨[80, 117, 115, 104, 83, 101, 108, 102], 0, false, 0⟩, ⟨[80, 117, 115, 104, 78, 105, 108], 0, false, 0⟩, ⟨[80, 117, 115, 104, 84, 114, 117, 101], 0, false, 0⟩,
  ⟨[80, 117, 115, 104, 70, 97, 108, 115, 101], 0, false, 0⟩, ⟨[80, 117, 115, 104, 83, 109, 97, 108, 108], 1, true, 0⟩, ⟨[80, 117, 115, 104, 84, 101, 109, 112], 1, false, 0⟩,
  ⟨[80, 117, 115, 104, 70, 105, 101, 108, 100], 1, false, 0⟩, ⟨[80, 117, 115, 104, 76, 105, 116], 1, false, 0⟩, ⟨[83, 116, 111, 114, 101, 84, 101, 109, 112], 1, false, 0⟩,
  ⟨[83, 116, 111, 114, 101, 70, 105, 101, 108, 100], 1, false, 0⟩, ⟨[80, 111, 112], 0, false, 0⟩, ⟨[68, 117, 112], 0, false, 0⟩, ⟨[83, 101, 110, 100], 1, false, 1⟩,
  ⟨[83, 117, 112, 101, 114, 83, 101, 110, 100], 1, false, 1⟩, ⟨[74, 117, 109, 112], 2, true, 0⟩, ⟨[74, 117, 109, 112, 84, 114, 117, 101], 2, true, 0⟩,
  ⟨[74, 117, 109, 112, 70, 97, 108, 115, 101], 2, true, 0⟩, ⟨[66, 108, 111, 99, 107], 1, false, 2⟩, ⟨[82, 101, 116, 117, 114, 110], 0, false, 0⟩, ⟨[69, 110, 100], 0, false, 0⟩]
def fmOf (op : Int) : Fm := if 0 ≤ op then fmT.getD op.toNat ⟨[], 0, false, 0⟩ else ⟨[], 0, false, 0⟩
/-- a number has so many bytes -/
def fitsZ (x : Int) (n : Nat) (sg : Bool) : Bool :=
  if sg && decide (0 < n) then decide (-((2 : Int) ^ (8 * n - 1)) ≤ x) && decide (x < (2 : Int) ^ (8 * n - 1)) else decide (0 ≤ x) && decide (x < (2 : Int) ^ (8 * n))
def byteZ (x : Int) (i : Nat) : UInt8 := UInt8.ofNat ((x / (256 : Int) ^ i) % 256).toNat
def putZ (x : Int) : Nat → List UInt8
  | 0 => []
  | n + 1 => putZ x n ++ [byteZ x n]
def getN : List UInt8 → Nat
  | [] => 0
  | c :: l => c.toNat + 256 * getN l
def getZ (l : List UInt8) (sg : Bool) : Int :=
  if sg && decide ((2 : Int) ^ (8 * l.length) / 2 ≤ (getN l : Int)) then (getN l : Int) - (2 : Int) ^ (8 * l.length) else (getN l : Int)
theorem putZ_length (x : Int) : ∀ n, (putZ x n).length = n
  | 0 => rfl
  | n + 1 => by unfold putZ; rw [List.length_append, putZ_length x n]; rfl
theorem byteZ_nat (x : Int) (i : Nat) : (byteZ x i).toNat = ((x / (256 : Int) ^ i) % 256).toNat := by
  unfold byteZ
  rw [UInt8.toNat_ofNat']
  have : 0 ≤ (x / (256 : Int) ^ i) % 256 ∧ (x / (256 : Int) ^ i) % 256 < 256 := ⟨Int.emod_nonneg _ (by decide), Int.emod_lt_of_pos _ (by decide)⟩
  omega
theorem fits_zero {x : Int} {sg : Bool} : fitsZ x 0 sg = true ↔ x = 0 := by
  unfold fitsZ; simp; omega
theorem fits_u1 {x : Int} : fitsZ x 1 false = true ↔ 0 ≤ x ∧ x < 256 := by
  unfold fitsZ; simp
theorem fits_u2 {x : Int} : fitsZ x 2 false = true ↔ 0 ≤ x ∧ x < 65536 := by
  unfold fitsZ; simp
theorem fits_s1 {x : Int} : fitsZ x 1 true = true ↔ -128 ≤ x ∧ x < 128 := by
  unfold fitsZ; simp
theorem fits_s2 {x : Int} : fitsZ x 2 true = true ↔ -32768 ≤ x ∧ x < 32768 := by
  unfold fitsZ; simp
theorem put1 (x : Int) : putZ x 1 = [byteZ x 0] := rfl
theorem put2' (x : Int) : putZ x 2 = [byteZ x 0, byteZ x 1] := rfl
theorem get_put {x : Int} {n : Nat} {sg : Bool} (hn : n ≤ 2) (hs : n = 0 → sg = false) (h : fitsZ x n sg = true) : getZ (putZ x n) sg = x := by
  have b0 := byteZ_nat x 0
  have b1 := byteZ_nat x 1
  rw [Int.pow_zero, Int.ediv_one] at b0
  rw [show ((256 : Int) ^ 1) = 256 from rfl] at b1
  obtain rfl | rfl | rfl : n = 0 ∨ n = 1 ∨ n = 2 := by omega
  · rw [hs rfl] at h ⊢
    have := fits_zero.1 h
    subst this; rfl
  · cases sg
    · have := fits_u1.1 h
      rw [put1]; unfold getZ getN getN; simp; omega
    · have := fits_s1.1 h
      rw [put1]; unfold getZ getN getN
      simp only [Bool.true_and, List.length_singleton, decide_eq_true_eq]
      split <;> omega
  · cases sg
    · have := fits_u2.1 h
      rw [put2']; unfold getZ getN getN getN; simp; omega
    · have := fits_s2.1 h
      rw [put2']; unfold getZ getN getN getN
      simp only [Bool.true_and, List.length_cons, List.length_nil, decide_eq_true_eq]
      split <;> omega
end Go.Proofs.YtnajgpefmknmpaaDoor
