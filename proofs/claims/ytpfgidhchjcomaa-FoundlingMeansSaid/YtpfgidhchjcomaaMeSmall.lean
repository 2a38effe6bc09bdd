/- A number that fits a word. -/
import Derived.Test.YtpfgidhchjcomaaMeNode
namespace Go.Proofs.Ytpfgidhchjcomaa
open Go.RowKit
set_option linter.unusedVariables false
def smB (n : Int) : Bool := decide (-4611686018427387904 ≤ n) && decide (n ≤ 4611686018427387903)
set_option maxRecDepth 100000 in
theorem small_any (n : Int) (w : World) :
    Calls Try.prog 41 #[.int .i64 n] w fun e w' => (∃ x : Int, e = .returned (.tuple #[.int .u64 x, .int .i64 (if smB n = true then 0 else 9)])) ∧ Below w.heap.size w w' := by
  unfold smB
  by_cases h1 : n < -4611686018427387904
  · have HF := Lib.hid (show (decide (-4611686018427387904 ≤ n) && decide (n ≤ 4611686018427387903)) = false by simp; omega)
    rw [HF.out]
    go_enter Try.func41, Try.ntmps41
    go_wp2_with fail
    exact bodyPost_ret (results_tmp2 Try.results41 _ _ _) rfl ⟨⟨_, rfl⟩, by repeat (first | with_reducible exact Below.refl _ _ | ((with_reducible refine Below.setCell ?_ ?_ _); rotate_left; focus (first | (simp; done) | (simp; omega) | omega)) | ((with_reducible refine Below.alloc ?_ ?_ _); rotate_left; focus (first | (simp; done) | (simp; omega) | omega)) | (with_reducible refine Below.drew ?_))⟩
  · by_cases h2 : 4611686018427387903 < n
    · have HF := Lib.hid (show (decide (-4611686018427387904 ≤ n) && decide (n ≤ 4611686018427387903)) = false by simp; omega)
      rw [HF.out]
      go_enter Try.func41, Try.ntmps41
      go_wp2_with fail
      exact bodyPost_ret (results_tmp2 Try.results41 _ _ _) rfl ⟨⟨_, rfl⟩, by repeat (first | with_reducible exact Below.refl _ _ | ((with_reducible refine Below.setCell ?_ ?_ _); rotate_left; focus (first | (simp; done) | (simp; omega) | omega)) | ((with_reducible refine Below.alloc ?_ ?_ _); rotate_left; focus (first | (simp; done) | (simp; omega) | omega)) | (with_reducible refine Below.drew ?_))⟩
    · have HF := Lib.hid (show (decide (-4611686018427387904 ≤ n) && decide (n ≤ 4611686018427387903)) = true by simp; omega)
      rw [HF.out]
      go_enter Try.func41, Try.ntmps41
      go_wp2_with fail
      exact bodyPost_ret (results_tmp2 Try.results41 _ _ _) rfl ⟨⟨_, rfl⟩, by repeat (first | with_reducible exact Below.refl _ _ | ((with_reducible refine Below.setCell ?_ ?_ _); rotate_left; focus (first | (simp; done) | (simp; omega) | omega)) | ((with_reducible refine Below.alloc ?_ ?_ _); rotate_left; focus (first | (simp; done) | (simp; omega) | omega)) | (with_reducible refine Below.drew ?_))⟩
end Go.Proofs.Ytpfgidhchjcomaa
