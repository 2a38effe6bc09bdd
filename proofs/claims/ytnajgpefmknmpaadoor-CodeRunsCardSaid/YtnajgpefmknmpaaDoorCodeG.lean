/- Bytes as a number: the document's get. -/
import Derived.Test.YtnajgpefmknmpaaDoorCodeF
namespace Go.Proofs.YtnajgpefmknmpaaDoor
open Go.RowKit
set_option linter.unusedVariables false
set_option maxRecDepth 100000 in
theorem rget_nil (a : Option Addr) (cap : Nat) (w : World) :
    Calls Tryd.prog 24 #[.slice a 0 cap, .int .i64 0] w fun e w' => e = .returned (.int .i64 0) ∧ w' = w := by
  go_enter Tryd.func24, Tryd.ntmps24
  go_wp2_with fail
  refine wp_loop_rounds 1 ?_; rw [rounds_succ]
  go_wp2_with fail
  go_ret
  exact ⟨rfl, rfl⟩
set_option maxRecDepth 100000 in
theorem rget_one_u (b o cap : Nat) (c : UInt8) (w : World) (h0 : w.cell? ⟨b, o, none⟩ = some (.int .u8 (c.toNat : Int))) (h : 1 ≤ cap) :
    Calls Tryd.prog 24 #[.slice (some ⟨b, o, none⟩) 1 cap, .int .i64 1] w fun e w' => e = .returned (.int .i64 (getZ [c] false)) ∧ w' = w := by
  have hc := c.toNat_lt
  have HG := Lib.hid ((getZ_one c false).trans (if_neg (by simp)))
  go_enter Tryd.func24, Tryd.ntmps24
  go_wp2_with fail
  refine wp_loop_rounds 2 ?_; rw [rounds_succ]
  go_wp2_with fail
  rw [rounds_succ]
  go_wp2_with fail
  go_ret
  exact ⟨ret_int HG.out.symm, rfl⟩
set_option maxRecDepth 100000 in
theorem rget_one_s (b o cap : Nat) (c : UInt8) (w : World) (h0 : w.cell? ⟨b, o, none⟩ = some (.int .u8 (c.toNat : Int))) (h : 1 ≤ cap) :
    Calls Tryd.prog 24 #[.slice (some ⟨b, o, none⟩) 1 cap, .int .i64 (-1)] w fun e w' => e = .returned (.int .i64 (getZ [c] true)) ∧ w' = w := by
  have hc := c.toNat_lt
  by_cases hs : 128 ≤ (c.toNat : Int)
  · have HG := Lib.hid ((getZ_one c true).trans (if_pos (by simp; omega)))
    have hs' := decide_eq_true hs
    go_enter Tryd.func24, Tryd.ntmps24
    go_wp2_with fail
    refine wp_loop_rounds 2 ?_; rw [rounds_succ]
    go_wp2_with fail
    rw [rounds_succ]
    go_wp2_with fail
    go_ret
    exact ⟨ret_int HG.out.symm, rfl⟩
  · have HG := Lib.hid ((getZ_one c true).trans (if_neg (by simp; omega)))
    have hs' := decide_eq_false hs
    clear hs
    go_enter Tryd.func24, Tryd.ntmps24
    go_wp2_with fail
    refine wp_loop_rounds 2 ?_; rw [rounds_succ]
    go_wp2_with fail
    rw [rounds_succ]
    go_wp2_with fail
    go_ret
    exact ⟨ret_int HG.out.symm, rfl⟩
set_option maxRecDepth 100000 in
theorem rget_two_u (b o cap : Nat) (c d : UInt8) (w : World) (h0 : w.cell? ⟨b, o, none⟩ = some (.int .u8 (c.toNat : Int))) (h1 : w.cell? ⟨b, o + 1, none⟩ = some (.int .u8 (d.toNat : Int))) (h : 2 ≤ cap) :
    Calls Tryd.prog 24 #[.slice (some ⟨b, o, none⟩) 2 cap, .int .i64 2] w fun e w' => e = .returned (.int .i64 (getZ [c, d] false)) ∧ w' = w := by
  have hc := c.toNat_lt
  have hd := d.toNat_lt
  have hcm : (d.toNat : Int) * 256 + c.toNat = (c.toNat : Int) + (d.toNat : Int) * 256 := Int.add_comm _ _
  have HG := Lib.hid ((getZ_two c d false).trans (if_neg (by simp)))
  go_enter Tryd.func24, Tryd.ntmps24
  go_wp2_with fail
  refine wp_loop_rounds 3 ?_; rw [rounds_succ]
  go_wp2_with fail
  rw [rounds_succ]
  go_wp2_with fail
  rw [rounds_succ]
  go_wp2_with fail
  go_ret
  exact ⟨ret_int HG.out.symm, rfl⟩
set_option maxRecDepth 100000 in
theorem rget_two_s (b o cap : Nat) (c d : UInt8) (w : World) (h0 : w.cell? ⟨b, o, none⟩ = some (.int .u8 (c.toNat : Int))) (h1 : w.cell? ⟨b, o + 1, none⟩ = some (.int .u8 (d.toNat : Int))) (h : 2 ≤ cap) :
    Calls Tryd.prog 24 #[.slice (some ⟨b, o, none⟩) 2 cap, .int .i64 (-2)] w fun e w' => e = .returned (.int .i64 (getZ [c, d] true)) ∧ w' = w := by
  have hc := c.toNat_lt
  have hd := d.toNat_lt
  have hcm : (d.toNat : Int) * 256 + c.toNat = (c.toNat : Int) + (d.toNat : Int) * 256 := Int.add_comm _ _
  by_cases hs : 32768 ≤ (c.toNat : Int) + (d.toNat : Int) * 256
  · have HG := Lib.hid ((getZ_two c d true).trans (if_pos (by simp; omega)))
    have hs' := decide_eq_true hs
    go_enter Tryd.func24, Tryd.ntmps24
    go_wp2_with fail
    refine wp_loop_rounds 3 ?_; rw [rounds_succ]
    go_wp2_with fail
    rw [rounds_succ]
    go_wp2_with fail
    rw [rounds_succ]
    go_wp2_with fail
    go_ret
    exact ⟨ret_int HG.out.symm, rfl⟩
  · have HG := Lib.hid ((getZ_two c d true).trans (if_neg (by simp; omega)))
    have hs' := decide_eq_false hs
    clear hs
    go_enter Tryd.func24, Tryd.ntmps24
    go_wp2_with fail
    refine wp_loop_rounds 3 ?_; rw [rounds_succ]
    go_wp2_with fail
    rw [rounds_succ]
    go_wp2_with fail
    rw [rounds_succ]
    go_wp2_with fail
    go_ret
    exact ⟨ret_int HG.out.symm, rfl⟩
end Go.Proofs.YtnajgpefmknmpaaDoor
