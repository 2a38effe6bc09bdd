/- Is it sent to super? -/
import Derived.Test.YtpfgidhchjcomaaMeAllR
namespace Go.Proofs.Ytpfgidhchjcomaa
open Go.RowKit
set_option linter.unusedVariables false
set_option maxRecDepth 100000 in
set_option maxHeartbeats 4000000 in
theorem super_any (x : Nat → Prop) (d : Nat) (n : Nd) (kv nv : Value) (w : World) (hk : NodesX x d w kv n.kids) (hn : n.kind = 7 → n.kids ≠ []) :
    Calls Try.prog 72 #[ndV n kv nv] w fun e w' => e = .returned (.bool (superB n)) ∧ Below w.heap.size w w' := by
  obtain ⟨k, nm, nu, ks, ns, at_⟩ := n
  replace hk : NodesX x d w kv ks := hk
  show Calls Try.prog 72 #[.agg #[.int .i64 k, .string nm, .int .i64 nu, kv, nv, .int .i64 at_]] w fun e w' => e = .returned (.bool (superB (.mk k nm nu ks ns at_))) ∧ Below w.heap.size w w'
  by_cases h7 : k = 7
  · subst h7
    cases ks with
    | nil => exact absurd rfl (hn rfl)
    | cons y l =>
      obtain ⟨a, c, rfl, -⟩ := hk.shape
      obtain ⟨b, o, kv', nv', rfl, c0, c1, -⟩ := hk.succ.at 0 y rfl
      simp only [Nat.zero_mul, Nat.add_zero] at c0 c1
      have hlt := lt_of_cell c0
      have HE := Lib.hid (show superB (.mk 7 nm nu (y :: l) ns at_) = (decide (y.kind = 5) && (y.name.toList == [115, 117, 112, 101, 114])) from by
        show (decide ((7:Int) = 7) && _) = _
        simp
        rfl)
      rw [HE.out]
      have hl1 : (y :: l).length = l.length + 1 := rfl
      rw [hl1]
      clear hk hn HE
      generalize y.kind = q at *
      generalize y.name = s at *
      by_cases h5 : q = 5
      · subst h5
        have HF := Lib.hid (show (decide ((5:Int) = 5) && (s.toList == [115, 117, 112, 101, 114])) = (s.toList == [115, 117, 112, 101, 114]) by simp)
        rw [HF.out]
        go_enter Try.func72, Try.ntmps72
        go_wp2_with fail
        go_ret
        exact ⟨rfl, (Below.refl _ _).alloc (Nat.le_refl _) _⟩
      · have HF := Lib.hid (show (decide (q = 5) && (s.toList == [115, 117, 112, 101, 114])) = false by simp [h5])
        have e5 : (q == 5) = false := by simpa using h5
        rw [HF.out]
        clear h5
        go_enter Try.func72, Try.ntmps72
        go_wp2_with fail
        go_ret
        exact ⟨rfl, (Below.refl _ _).alloc (Nat.le_refl _) _⟩
  · have HF := Lib.hid (show superB (.mk k nm nu ks ns at_) = false by
      show (decide (k = 7) && _) = false
      simp [h7])
    have e7 : (k == 7) = false := by simpa using h7
    rw [HF.out]
    clear h7 hk hn
    go_enter Try.func72, Try.ntmps72
    go_wp2_with fail
    go_ret
    exact ⟨rfl, (Below.refl _ _).alloc (Nat.le_refl _) _⟩
end Go.Proofs.Ytpfgidhchjcomaa
