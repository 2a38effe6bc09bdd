/- HeadPoints: a place has its pointer, and a pointer its place; other words are none: for every place and word. -/
import Derived.Test.YtmbfkagoiijjmaaHeadB
import Derived.ProofKit
import Derived.OpenShut
import Derived.ChangeOld
namespace Go.Proofs.Ytmbfkagoiijjmaa.headPoints
open Go.ChangeShapes Go.WideShapes Go.ChangeAt Go.RowKit
set_option linter.unusedVariables false
set_option maxRecDepth 100000 in
theorem walk (n a : Int) (h0 : 0 ≤ a) (h1 : a < 18446744073709551616) (w : World) :
    Calls Try.prog 3 #[.int .i64 n, .int .u64 a] w fun e w' => e = .returned (.bool true) ∧ Below w.heap.size w w' := by
  by_cases hn : 1 ≤ n ∧ n < 16777216
  · obtain ⟨n0, n1⟩ := hn
    by_cases ha : a % 2 = 1 ∨ a = 0 ∨ 33554432 ≤ a
    · have C := Lib.hid (at_no a h0 h1 ha)
      go_enter Try.func3, Try.ntmps3
      go_wp2_with fail
      refine (awake3 _).mono ?_; rintro e w1 ⟨rfl, hg⟩
      have HG := Lib.hid hg; clear hg
      go_wp2_with fail
      refine (ptr_yes n n0 n1 _).mono ?_; rintro e w2 ⟨rfl, rfl⟩
      go_wp2_with fail
      refine (at_yes (n * 2) (by omega) (by omega) (by omega) _).mono ?_; rintro e w2 ⟨rfl, rfl⟩
      go_wp2_with fail
      refine (C.out _).mono ?_; rintro e w2 ⟨rfl, rfl⟩
      go_wp2_with fail
      all_goals first | (go_ret; exact ⟨rfl, HG.out⟩) | (go_light; exfalso; omega)
    · have h2 : 1 ≤ a := by omega
      have h3 : a < 33554432 := by omega
      have h4 : a % 2 = 0 := by omega
      have C := Lib.hid (at_yes a h2 h3 h4)
      have h5 : ¬ a % 2 = 1 := by omega
      have h6 : (2 * (a / 2) == a) = true := by rw [beq_iff_eq]; omega
      clear ha h4
      go_enter Try.func3, Try.ntmps3
      go_wp2_with fail
      refine (awake3 _).mono ?_; rintro e w1 ⟨rfl, hg⟩
      have HG := Lib.hid hg; clear hg
      go_wp2_with fail
      refine (ptr_yes n n0 n1 _).mono ?_; rintro e w2 ⟨rfl, rfl⟩
      go_wp2_with fail
      refine (at_yes (n * 2) (by omega) (by omega) (by omega) _).mono ?_; rintro e w2 ⟨rfl, rfl⟩
      go_wp2_with fail
      refine (C.out _).mono ?_; rintro e w2 ⟨rfl, rfl⟩
      go_wp2_with fail
      all_goals first | (go_ret; exact ⟨rfl, HG.out⟩) | (go_light; exfalso; omega)
  · have hn' : n < 1 ∨ 16777216 ≤ n := by omega
    have P := Lib.hid (ptr_no n hn')
    clear hn
    by_cases ha : a % 2 = 1 ∨ a = 0 ∨ 33554432 ≤ a
    · have C := Lib.hid (at_no a h0 h1 ha)
      rcases hn' with hn' | hn'
      · have hd : decide (1 ≤ n) = false := by simpa using hn'
        go_enter Try.func3, Try.ntmps3
        go_wp2_with fail
        refine (awake3 _).mono ?_; rintro e w1 ⟨rfl, hg⟩
        have HG := Lib.hid hg; clear hg
        go_wp2_with fail
        refine (P.out _).mono ?_; rintro e w2 ⟨rfl, rfl⟩
        go_wp2_with fail
        refine (C.out _).mono ?_; rintro e w2 ⟨rfl, rfl⟩
        go_wp2_with fail
        all_goals first | (go_ret; exact ⟨rfl, HG.out⟩) | (go_light; exfalso; omega)
      · have he : decide (1 ≤ n) = true := by simp; omega
        have hd : decide (n < 16777216) = false := by simpa using hn'
        go_enter Try.func3, Try.ntmps3
        go_wp2_with fail
        refine (awake3 _).mono ?_; rintro e w1 ⟨rfl, hg⟩
        have HG := Lib.hid hg; clear hg
        go_wp2_with fail
        refine (P.out _).mono ?_; rintro e w2 ⟨rfl, rfl⟩
        go_wp2_with fail
        refine (C.out _).mono ?_; rintro e w2 ⟨rfl, rfl⟩
        go_wp2_with fail
        all_goals first | (go_ret; exact ⟨rfl, HG.out⟩) | (go_light; exfalso; omega)
    · have h2 : 1 ≤ a := by omega
      have h3 : a < 33554432 := by omega
      have h4 : a % 2 = 0 := by omega
      have C := Lib.hid (at_yes a h2 h3 h4)
      have h5 : ¬ a % 2 = 1 := by omega
      have h6 : (2 * (a / 2) == a) = true := by rw [beq_iff_eq]; omega
      clear ha h4
      rcases hn' with hn' | hn'
      · have hd : decide (1 ≤ n) = false := by simpa using hn'
        go_enter Try.func3, Try.ntmps3
        go_wp2_with fail
        refine (awake3 _).mono ?_; rintro e w1 ⟨rfl, hg⟩
        have HG := Lib.hid hg; clear hg
        go_wp2_with fail
        refine (P.out _).mono ?_; rintro e w2 ⟨rfl, rfl⟩
        go_wp2_with fail
        refine (C.out _).mono ?_; rintro e w2 ⟨rfl, rfl⟩
        go_wp2_with fail
        all_goals first | (go_ret; exact ⟨rfl, HG.out⟩) | (go_light; exfalso; omega)
      · have he : decide (1 ≤ n) = true := by simp; omega
        have hd : decide (n < 16777216) = false := by simpa using hn'
        go_enter Try.func3, Try.ntmps3
        go_wp2_with fail
        refine (awake3 _).mono ?_; rintro e w1 ⟨rfl, hg⟩
        have HG := Lib.hid hg; clear hg
        go_wp2_with fail
        refine (P.out _).mono ?_; rintro e w2 ⟨rfl, rfl⟩
        go_wp2_with fail
        refine (C.out _).mono ?_; rintro e w2 ⟨rfl, rfl⟩
        go_wp2_with fail
        all_goals first | (go_ret; exact ⟨rfl, HG.out⟩) | (go_light; exfalso; omega)
theorem own : ownKnob Try.prog.godebug = none := by kernel_rfl
theorem laidOut : laidOutB Try.prog = true := by kernel_rfl
set_option maxRecDepth 100000 in
theorem lifted (os : Os) (started : os.Started) (H : Type) (enc : TypeId × Value → H) :
    ReturnsInHanded {} Try.checked os 3 .any (Rows.headPointsSpec.pre6 enc Try.prog Try.f3 Rows.headPointsRow.domain false) (Rows.headPointsSpec.post enc Try.prog Try.f3 false true false false) := by
  refine returnsInHanded_of_change (C := Try.checked) own started (by kernel_rfl) Try.func3
    (ChangeSpec.witness6 (enc := enc) (C := Try.checked) false ⟨#[], #[.int .i64 0, .int .u64 0], []⟩ 8 (by kernel_rfl) (by kernel_rfl) (by kernel_rfl) (by kernel_rfl)) ?_
  intro W base args ds gs before hval0 hW hcnd _
  have hval : ∀ (j : Nat) t v, Try.f3.params[j]? = some t → args[j]? = some v → Value.okWide Try.prog W .any base t v := hval0
  have hW' := hW
  obtain ⟨p, q, hA0, hV, rfl, hfz, hnd⟩ := hW
  have hA : DataW.TrodAll enc Try.prog W 0 (fun _ => true) true Try.f3.params.toList args.toList ds p := hA0
  rw [Try.params3] at hA hval
  obtain ⟨v0, vs0, d0, ds0, p0, q0, hargs, rfl, rfl, h0, r0⟩ := trodAll_cons hA
  obtain ⟨v1, vs1, d1, ds1, p1, q1, rfl, rfl, rfl, h1, r1⟩ := trodAll_cons r0
  obtain ⟨rfl, rfl, rfl⟩ := trodAll_nil r1
  obtain rfl : args = #[v0, v1] := by cases args; simp_all
  obtain ⟨rfl, rfl⟩ := trodVars_none hV
  have k0 := h0
  have lt0 : ∀ x ∈ p0, x.block < W.heap.size := by obtain ⟨m, hm⟩ := k0; exact DataW.trod_lt m _ _ _ hm
  have k1 := h1
  have lt1 : ∀ x ∈ p1, x.block < W.heap.size := by obtain ⟨m, hm⟩ := k1; exact DataW.trod_lt m _ _ _ hm
  obtain ⟨a0, rfl, rfl, rfl, w0⟩ := open_int Try.underlying3 (hval 0 3 v0 rfl rfl) h0
  obtain ⟨a1, rfl, rfl, rfl, w1⟩ := open_int Try.underlying23 (hval 1 23 v1 rfl rfl) h1
  have b1 := bounds_u64 w1
  clear hA0 hval0
  refine (walk a0 a1 b1.1 (by omega) W).mono fun e W' ⟨he, bel⟩ => ?_
  subst he
  exact ⟨_, rfl, _, _, _, [], _, [], hW', trodAll_mk1 (shut_bool Try.underlying4 _), (trodAll_cons_mk (Below.trod laidOut (by kernel_rfl) (of_decide_eq_true (by kernel_rfl)) k0 bel lt0) (trodAll_cons_mk (Below.trod laidOut (by kernel_rfl) (of_decide_eq_true (by kernel_rfl)) k1 bel lt1) trodAll_mk0)), rfl, bel.frame _, fun h => by cases h⟩
theorem over : Rows.headPointsRow.holds Try.pinned (OpenSpec.ofChange Rows.headPointsSpec) :=
  OpenClaim.holds_of_wide 3 Try.f3 rfl rfl rfl rfl rfl rfl rfl ⟨rfl, rfl, rfl, rfl, rfl⟩ rfl rfl rfl rfl rfl (by kernel_rfl) Try.func3 (by kernel_rfl)
    (of_decide_eq_true (by kernel_rfl)) (by unfold Func.isWrapper; rw [if_neg (by decide +kernel)]; exact ⟨rfl, rfl⟩)
    (fun os started H enc _ => lifted os started H enc)
theorem proved : Rows.HeadPointsSaid := over
end Go.Proofs.Ytmbfkagoiijjmaa.headPoints
