/- The document's forms. -/
import Derived.Test.YtnajgpefmknmpaaDoorCodeA
namespace Go.Proofs.YtnajgpefmknmpaaDoor
open Go.RowKit
set_option linter.unusedVariables false
/-- A's bytes as the document tells them: below 0 with a sign -/
def aS (f : Fm) : Int := if f.sg then -(f.a : Int) else f.a
set_option maxRecDepth 100000 in
set_option maxHeartbeats 1000000 in
theorem name_any (op : Int) (w : World) :
    Calls Tryd.prog 20 #[.int .i64 op] w fun e w' => e = .returned (.tuple #[.string ⟨(fmOf op).name.toArray⟩, .int .i64 (aS (fmOf op)), .int .i64 ((fmOf op).b : Int)]) ∧ w' = w := by
  by_cases h : 0 ≤ op ∧ op < 20
  · obtain rfl | rfl | rfl | rfl | rfl | rfl | rfl | rfl | rfl | rfl | rfl | rfl | rfl | rfl | rfl | rfl | rfl | rfl | rfl | rfl : op = 0 ∨ op = 1 ∨ op = 2 ∨ op = 3 ∨ op = 4 ∨ op = 5 ∨ op = 6 ∨ op = 7 ∨ op = 8 ∨ op = 9 ∨ op = 10 ∨ op = 11 ∨ op = 12 ∨ op = 13 ∨ op = 14 ∨ op = 15 ∨ op = 16 ∨ op = 17 ∨ op = 18 ∨ op = 19 := by omega
    all_goals
      go_enter Tryd.func20, Tryd.ntmps20
      go_wp2_with fail
      exact bodyPost_ret (results_tmp3 Tryd.results20 _ _ _) rfl ⟨rfl, rfl⟩
  · have hf : fmOf op = ⟨[], 0, false, 0⟩ := by
      unfold fmOf
      split
      · rw [List.getD_eq_getElem?_getD, List.getElem?_eq_none (by show 20 ≤ _; omega)]; rfl
      · rfl
    rw [hf]
    have n0 : (op == 0) = false := by simp; omega
    have n1 : (op == 1) = false := by simp; omega
    have n2 : (op == 2) = false := by simp; omega
    have n3 : (op == 3) = false := by simp; omega
    have n4 : (op == 4) = false := by simp; omega
    have n5 : (op == 5) = false := by simp; omega
    have n6 : (op == 6) = false := by simp; omega
    have n7 : (op == 7) = false := by simp; omega
    have n8 : (op == 8) = false := by simp; omega
    have n9 : (op == 9) = false := by simp; omega
    have n10 : (op == 10) = false := by simp; omega
    have n11 : (op == 11) = false := by simp; omega
    have n12 : (op == 12) = false := by simp; omega
    have n13 : (op == 13) = false := by simp; omega
    have n14 : (op == 14) = false := by simp; omega
    have n15 : (op == 15) = false := by simp; omega
    have n16 : (op == 16) = false := by simp; omega
    have n17 : (op == 17) = false := by simp; omega
    have n18 : (op == 18) = false := by simp; omega
    have n19 : (op == 19) = false := by simp; omega
    clear hf h
    go_enter Tryd.func20, Tryd.ntmps20
    go_wp2_with fail
    exact bodyPost_ret (results_tmp3 Tryd.results20 _ _ _) rfl ⟨rfl, rfl⟩
end Go.Proofs.YtnajgpefmknmpaaDoor
