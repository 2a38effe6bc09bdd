/- Bytes as a number: the program's get, the document's, and an amount. -/
import Derived.Test.YtnajgpefmknmpaaDoorCodeE
import Derived.Test.YtnajgpefmknmpaaDoorBits
namespace Go.Proofs.YtnajgpefmknmpaaDoor
open Go.RowKit
set_option linter.unusedVariables false
set_option maxRecDepth 100000 in
theorem size_any (n : Int) (w : World) (h : -100 ≤ n ∧ n ≤ 100) :
    Calls Tryd.prog 23 #[.int .i64 n] w fun e w' => e = .returned (.int .i64 (if n < 0 then -n else n)) ∧ w' = w := by
  by_cases h0 : n < 0
  · rw [if_pos h0]
    go_enter Tryd.func23, Tryd.ntmps23
    go_wp2_with fail
    go_ret
    exact ⟨rfl, rfl⟩
  · rw [if_neg h0]
    go_enter Tryd.func23, Tryd.ntmps23
    go_wp2_with fail
    go_ret
    exact ⟨rfl, rfl⟩
set_option maxRecDepth 100000 in
theorem get_nil (a : Option Addr) (cap : Nat) (w : World) :
    Calls Tryd.prog 22 #[.slice a 0 cap, .bool false] w fun e w' => e = .returned (.int .i64 0) ∧ w' = w := by
  go_enter Tryd.func22, Tryd.ntmps22
  go_wp2_with fail
  refine wp_loop_rounds 1 ?_; rw [rounds_succ]
  go_wp2_with fail
  go_ret
  exact ⟨rfl, rfl⟩
theorem i64_or_nat (a b : Nat) (ha : a < 65536) (hb : b < 65536) : bits .or .i64 (a : Int) (b : Int) = ((a ||| b : Nat) : Int) := by
  have hx : a ||| b < 2 ^ 16 := Nat.or_lt_two_pow (by omega) (by omega)
  show IntKind.i64.wrap ((BitVec.ofInt 64 (a : Int) ||| BitVec.ofInt 64 (b : Int)).toNat : Int) = _
  rw [BitVec.toNat_or, ofInt_u64 a (by omega), ofInt_u64 b (by omega)]
  exact IntWalk.i64_in _ (by omega)
theorem or_none (a : Nat) (ha : a < 65536) : bits .or .i64 0 (a : Int) = (a : Int) := by
  have := i64_or_nat 0 a (by omega) ha
  rw [Nat.zero_or] at this
  exact this
theorem or_join (a b : Nat) (ha : a < 256) (hb : b < 256) : bits .or .i64 (a : Int) ((b : Int) * 256) = (a : Int) + (b : Int) * 256 := by
  have := i64_or_nat a (b * 256) (by omega) (by omega)
  rw [Nat.or_comm, nat_join 8 _ _ (by omega) (by omega)] at this
  rw [show ((b : Int) * 256) = ((b * 256 : Nat) : Int) by omega, this]
  omega
theorem getZ_one (c : UInt8) (sg : Bool) : getZ [c] sg = if sg && decide (128 ≤ (c.toNat : Int)) then (c.toNat : Int) - 256 else c.toNat := by
  unfold getZ getN getN
  simp
theorem getZ_two (c d : UInt8) (sg : Bool) : getZ [c, d] sg = if sg && decide (32768 ≤ (c.toNat : Int) + (d.toNat : Int) * 256) then (c.toNat : Int) + (d.toNat : Int) * 256 - 65536 else (c.toNat : Int) + (d.toNat : Int) * 256 := by
  unfold getZ getN getN getN
  simp [Int.mul_comm]
set_option maxRecDepth 100000 in
theorem get_one (b o cap : Nat) (c : UInt8) (sg : Bool) (w : World) (h0 : w.cell? ⟨b, o, none⟩ = some (.int .u8 (c.toNat : Int))) (h : 1 ≤ cap) :
    Calls Tryd.prog 22 #[.slice (some ⟨b, o, none⟩) 1 cap, .bool sg] w fun e w' => e = .returned (.int .i64 (getZ [c] sg)) ∧ w' = w := by
  have hc := c.toNat_lt
  have ho := or_none c.toNat (by omega)
  cases sg
  · have HG := Lib.hid ((getZ_one c false).trans (if_neg (by simp)))
    go_enter Tryd.func22, Tryd.ntmps22
    go_wp2_with fail
    refine wp_loop_rounds 2 ?_; rw [rounds_succ]
    go_wp2_with fail
    rw [rounds_succ]
    go_wp2_with fail
    go_ret
    exact ⟨ret_int HG.out.symm, rfl⟩
  · by_cases hs : 128 ≤ (c.toNat : Int)
    · have HG := Lib.hid ((getZ_one c true).trans (if_pos (by simp; omega)))
      go_enter Tryd.func22, Tryd.ntmps22
      go_wp2_with fail
      refine wp_loop_rounds 2 ?_; rw [rounds_succ]
      go_wp2_with fail
      rw [rounds_succ]
      go_wp2_with fail
      go_ret
      exact ⟨ret_int HG.out.symm, rfl⟩
    · have HG := Lib.hid ((getZ_one c true).trans (if_neg (by simp; omega)))
      go_enter Tryd.func22, Tryd.ntmps22
      go_wp2_with fail
      refine wp_loop_rounds 2 ?_; rw [rounds_succ]
      go_wp2_with fail
      rw [rounds_succ]
      go_wp2_with fail
      go_ret
      exact ⟨ret_int HG.out.symm, rfl⟩
set_option maxRecDepth 100000 in
theorem get_two (b o cap : Nat) (c d : UInt8) (sg : Bool) (w : World) (h0 : w.cell? ⟨b, o, none⟩ = some (.int .u8 (c.toNat : Int))) (h1 : w.cell? ⟨b, o + 1, none⟩ = some (.int .u8 (d.toNat : Int))) (h : 2 ≤ cap) :
    Calls Tryd.prog 22 #[.slice (some ⟨b, o, none⟩) 2 cap, .bool sg] w fun e w' => e = .returned (.int .i64 (getZ [c, d] sg)) ∧ w' = w := by
  have hc := c.toNat_lt
  have hd := d.toNat_lt
  have ho := or_none c.toNat (by omega)
  have hj := or_join c.toNat d.toNat hc hd
  cases sg
  · have HG := Lib.hid ((getZ_two c d false).trans (if_neg (by simp)))
    go_enter Tryd.func22, Tryd.ntmps22
    go_wp2_with fail
    refine wp_loop_rounds 3 ?_; rw [rounds_succ]
    go_wp2_with fail
    rw [rounds_succ]
    go_wp2_with fail
    rw [rounds_succ]
    go_wp2_with fail
    go_ret
    exact ⟨ret_int HG.out.symm, rfl⟩
  · by_cases hs : 32768 ≤ (c.toNat : Int) + (d.toNat : Int) * 256
    · have HG := Lib.hid ((getZ_two c d true).trans (if_pos (by simp; omega)))
      go_enter Tryd.func22, Tryd.ntmps22
      go_wp2_with fail
      refine wp_loop_rounds 3 ?_; rw [rounds_succ]
      go_wp2_with fail
      rw [rounds_succ]
      go_wp2_with fail
      rw [rounds_succ]
      go_wp2_with fail
      go_ret
      exact ⟨ret_int HG.out.symm, rfl⟩
    · have HG := Lib.hid ((getZ_two c d true).trans (if_neg (by simp; omega)))
      have hs' := decide_eq_false hs
      clear hs
      go_enter Tryd.func22, Tryd.ntmps22
      go_wp2_with fail
      refine wp_loop_rounds 3 ?_; rw [rounds_succ]
      go_wp2_with fail
      rw [rounds_succ]
      go_wp2_with fail
      rw [rounds_succ]
      go_wp2_with fail
      go_ret
      exact ⟨ret_int HG.out.symm, rfl⟩
end Go.Proofs.YtnajgpefmknmpaaDoor
