/- A chain of objects: all of it is reached, in as many steps; and the law's fixed fact. -/
import Derived.Test.YtfhkmbeokdfllaaMarkG
namespace Go.Proofs.Ytfhkmbeokdfllaa
open Go.RowKit
set_option linter.unusedVariables false
theorem reach_chain (B0 h N free n rb x : Nat) (S : Nat → Bool) (M : Nat → Nat) (w : World) (H0 : HeapAt w B0 h N free S M) (hc : Chain n S M) (hn : 1 ≤ n) (hN : 4 + 3 * n ≤ N) (hx : x = lo n 0 * 2) (hr : w.cell? ⟨rb, 0, none⟩ = some (.int .u64 (x : Int))) (hrb : rb < w.heap.size) :
    Calls Try.prog 18 #[.pointer (some ⟨h, 0, none⟩), .slice (some ⟨rb, 0, none⟩) 1 1] w fun e w' => ∃ b, e = .returned (.tuple #[.pointer (some ⟨b, 0, none⟩), .int .i64 ((2 + 3 * n : Nat) : Int), .int .i64 0]) ∧ BitsAt w' w.heap.size b N (Tc n (n + 1)) ∧ Below w.heap.size w w' := by
  have hN2 : N ≤ 16777216 := by obtain ⟨g, s, -, -, h3, -⟩ := H0; exact h3
  have h := reach_any B0 h N free S M [x] (stR n) (n + 1) rb 1 w H0 (fun i hi => ?_) hrb (Nat.le_refl _) (by decide) ?_ (fun i hi => stR_step hc hn hN hN2 hi) ?_
  · rw [show (stR n (n + 1)).2.2 = 2 + 3 * n by show (if n + 1 = 0 then 3 else 2 + 3 * min (n + 1 + 1) n) = _; rw [if_neg (by omega)]; omega] at h
    exact h
  · have : i = 0 := by simp at hi; omega
    subst this
    refine ⟨?_, hr⟩
    show OKW N S M x
    rw [hx]; exact okw_obj hc hN hN2 (by omega)
  · show stR n 0 = lead1 N M ((fun _ => false), [], 0) x
    rw [hx, root_first hc hn hN]; rfl
  · show (if n + 1 = 0 then [lo n 0 * 2] else if n + 1 < n then [2 * 2, lo n (n + 1) * 2] else if n + 1 = n then [2 * 2] else []) = []
    rw [if_neg (by omega), if_neg (by omega), if_neg (by omega)]
theorem steps_chain (B0 h N free n : Nat) (S : Nat → Bool) (M : Nat → Nat) (w : World) (H0 : HeapAt w B0 h N free S M) (hc : Chain n S M) (hn : 1 ≤ n) (hN : 4 + 3 * n ≤ N) :
    Calls Try.prog 19 #[.pointer (some ⟨h, 0, none⟩), .int .u64 (lo n 0 * 2 : Int), .int .u64 ((4 : Nat) * 2 : Int)] w fun e w' => e = .returned (.tuple #[.int .i64 ((n - 1 : Nat) : Int), .int .i64 0]) ∧ Below w.heap.size w w' := by
  have hN2 : N ≤ 16777216 := by obtain ⟨g, s, -, -, h3, -⟩ := H0; exact h3
  have hS4 : S 4 = true := (hc.2 0 (by omega)).1
  have hlo : lo n 0 = 4 + 3 * (n - 1) := rfl
  refine steps_any B0 h N free (lo n 0) 4 S M (stS n) (aS n) (foundS n) (fS n) (n + 1) (max n 2) (n - 1) w H0 (oko_obj hc hN (by omega)) (by omega) (by omega) hS4 ?_ (fun t ht => ⟨aS_ok hc hn hN hN2 ht, ?_, ?_, ?_, stS_step hc hn hN ht⟩) rfl ?_ (by omega) (fun j hj => ?_) ?_ (by omega) (fun j hj t h1 h2 => ?_) ?_ (fun j hj t h1 h2 => ?_) ?_
  · exact (root_first hc hn hN).symm
  · show ((List.range (ln n t)).map (fun i => aS n i * 2))[t]? = _
    have hlt : t < ln n t := by rw [ln_eq]; split; omega; split <;> omega
    simp [hlt]
  · rw [stS_len, ln_eq]; split; omega; split <;> omega
  · show (if t = 0 then 3 else 2 + 3 * min (cS t + 1) n) ≤ _
    split <;> omega
  · unfold fS; rw [if_neg (by omega)]; omega
  · rw [stS_len, ln_eq]
    unfold fS
    by_cases h0 : j = 0
    · subst h0; simp
    · by_cases h1 : j = 1
      · subst h1; simp; omega
      · simp only [if_neg (show ¬ j ≤ 1 by omega), if_neg (show ¬ j + 1 ≤ 1 by omega), if_neg (show ¬ min (j + 1) (n + 1) = 0 by omega), if_neg (show ¬ min (j + 1) (n + 1) = 1 by omega)]
        omega
  · rw [stS_len, ln_eq, if_neg (by omega)]; split <;> omega
  · rw [stS_len, stS_len, ln_eq, ln_eq]
    unfold fS at h1 h2
    by_cases h0 : j = 0
    · subst h0; simp at h1 h2
    · by_cases h3 : j = 1
      · subst h3
        simp at h1 h2
        have : t = 1 := by omega
        subst this
        simp
      · rw [if_neg (by omega)] at h1 h2; omega
  · unfold foundS; rw [if_neg (by omega)]
  · have hA : aS n t = 4 ↔ (t = 0 ∧ n = 1) ∨ (2 ≤ t ∧ n ≤ t) := by
      unfold aS lo; split
      · omega
      · split <;> omega
    unfold fS at h1 h2
    by_cases h4 : aS n t = 4
    · rw [if_pos h4]
      have h5 := hA.1 h4
      unfold foundS
      by_cases h0 : j = 0
      · subst h0; simp at h1 h2
        rw [if_pos (by omega)]; omega
      · by_cases h3 : j = 1
        · subst h3
          simp at h1 h2
          rw [if_pos (by omega)]; omega
        · rw [if_neg (by omega)] at h1 h2
          rw [if_pos (by omega)]; omega
    · rw [if_neg h4]
      have h5 := fun hh => h4 (hA.2 hh)
      unfold foundS
      by_cases h6 : n < t ∨ (n = 1 ∧ t = 1)
      · rw [if_pos h6, if_pos (by omega)]
      · rw [if_neg h6, if_neg (by omega)]
  · unfold foundS; rw [if_pos (by omega)]; omega
end Go.Proofs.Ytfhkmbeokdfllaa
