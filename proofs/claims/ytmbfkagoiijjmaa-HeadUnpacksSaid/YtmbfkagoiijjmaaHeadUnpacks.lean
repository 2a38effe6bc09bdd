/- HeadUnpacks: any two words are the one head that they are, or none: for every two words. -/
import Derived.Test.YtmbfkagoiijjmaaHeadC
import Derived.ProofKit
import Derived.OpenShut
import Derived.ChangeOld
namespace Go.Proofs.Ytmbfkagoiijjmaa.headUnpacks
open Go.ChangeShapes Go.WideShapes Go.ChangeAt Go.RowKit
set_option linter.unusedVariables false
set_option maxRecDepth 100000 in
theorem walk_no (a b : Int) (a0 : 0 ≤ a) (a1 : a < 18446744073709551616) (b0 : 0 ≤ b) (b1 : b < 18446744073709551616) (hok : ¬ UnOK a b) (w : World) :
    Calls Try.prog 4 #[.int .u64 a, .int .u64 b] w fun e w' => e = .returned (.bool true) ∧ Below w.heap.size w w' := by
  have C := Lib.hid (unpack_no a b a0 a1 b0 b1 hok)
  have D := Lib.hid (runpack_no a b a0 b0 b1 hok)
  clear hok
  go_enter Try.func4, Try.ntmps4
  go_wp2_with fail
  refine (awake3 _).mono ?_; rintro e w1 ⟨rfl, hg⟩
  have H1 := Lib.hid hg; clear hg
  go_wp2_with fail
  refine (C.out _).mono ?_; rintro e w2 ⟨rfl, hg⟩
  have H2 := Lib.hid hg; clear hg
  go_wp2_with fail
  refine (D.out _).mono ?_; rintro e w3 ⟨rfl, hg⟩
  obtain ⟨hc, hf⟩ := bcell hg; have hs := hg.size; (try simp at hs); have hs0 : w2.heap.size < w3.heap.size := (by omega); have H3 := Lib.hid hg; clear hg
  go_wp2_with fail
  (refine wp_region_later (by kernel_rfl) (by kernel_rfl) ?_; (repeat (go_big_quiet_step ((go_at_call 15; exact calls_later (fun W => own_any 0 0 0 0 false W))))); refine wpQuiet_nil ?_; intro w4 hw4; have hg := later_elim hw4; clear hw4)
  have H4 := Lib.hid hg; clear hg
  go_wp2
  go_ret
  refine ⟨rfl, ?_⟩
  go_light
  have h1 := H1.out
  have h2 := H2.out
  have h3 := H3.out
  have h4 := H4.out
  have := h1.size
  have := h2.size
  have := h3.size
  have := h4.size
  simp at *
  repeat (first | with_reducible exact Below.refl _ _ | ((with_reducible refine Below.setCell ?_ ?_ _); rotate_left; focus (first | (simp; done) | (simp; omega) | omega)) | ((with_reducible refine Below.alloc ?_ ?_ _); rotate_left; focus (first | (simp; done) | (simp; omega) | omega)) | (with_reducible refine Below.drew ?_) | ((with_reducible refine Below.trans ?_ (Below.mono h4 ?_)); rotate_left; focus (first | (simp; done) | (simp; omega) | omega)) | ((with_reducible refine Below.trans ?_ (Below.mono h3 ?_)); rotate_left; focus (first | (simp; done) | (simp; omega) | omega)) | ((with_reducible refine Below.trans ?_ (Below.mono h2 ?_)); rotate_left; focus (first | (simp; done) | (simp; omega) | omega)) | ((with_reducible refine Below.trans ?_ (Below.mono h1 ?_)); rotate_left; focus (first | (simp; done) | (simp; omega) | omega)))
set_option maxRecDepth 100000 in
set_option maxHeartbeats 400000 in
theorem walk_yes (a b : Int) (a0 : 0 ≤ a) (a1 : a < 18446744073709551616) (b0 : 0 ≤ b) (b1 : b < 18446744073709551616) (hok : UnOK a b) (w : World) :
    Calls Try.prog 4 #[.int .u64 a, .int .u64 b] w fun e w' => e = .returned (.bool true) ∧ Below w.heap.size w w' := by
  have C := Lib.hid (unpack_yes a b a0 a1 b0 b1 hok)
  have D := Lib.hid (runpack_yes a b a0 b0 b1 hok)
  have r0 : 0 ≤ hH b := by unfold hH; omega
  have pk := pack_yes a (hK b) (hS b) (hH b) (hM b) a0 a1 r0 (unOK_check hok b0 b1)
  rw [packZ_back.2 hok.2.2.2.2] at pk
  have PK := Lib.hid pk; clear pk hok
  have hq := eq_words
  have hg0 := guard_words
  generalize hK b = k at *
  generalize hS b = s at *
  generalize hH b = h at *
  generalize hM b = m at *
  go_enter Try.func4, Try.ntmps4
  go_wp2_with fail
  refine (awake3 _).mono ?_; rintro e w1 ⟨rfl, hg⟩
  have H1 := Lib.hid hg; clear hg
  go_wp2_with fail
  refine (C.out _).mono ?_; rintro e w2 ⟨rfl, hg⟩
  have H2 := Lib.hid hg; clear hg
  go_wp2_with fail
  refine (D.out _).mono ?_; rintro e w3 ⟨rfl, hg⟩
  obtain ⟨hc, hf⟩ := bcell hg; have hs := hg.size; (try simp at hs); have hs0 : w2.heap.size < w3.heap.size := (by omega); have H3 := Lib.hid hg; clear hg
  go_wp2_with fail
  (refine wp_region_later (by kernel_rfl) (by kernel_rfl) ?_; (repeat (go_big_quiet_step ((go_at_call 15; exact calls_later (fun W => own_any a k s h m W))))); refine wpQuiet_nil ?_; intro w4 hw4; have hg := later_elim hw4; clear hw4)
  obtain ⟨hc4, hf4⟩ := bcell hg; have hs4 := hg.size; (try simp at hs4); have hs5 : w2.heap.size < w4.heap.size := (by omega); have H4 := Lib.hid hg; clear hg
  go_wp2_with fail
  refine (PK.out _).mono ?_; rintro e w5 ⟨rfl, hg⟩
  obtain ⟨hc5, hf5⟩ := bcell hg; have H5 := Lib.hid hg; clear hg
  go_wp2_with fail
  go_ret
  refine ⟨rfl, ?_⟩
  go_light
  have h1 := H1.out
  have h2 := H2.out
  have h3 := H3.out
  have h4 := H4.out
  have h5 := H5.out
  have := h1.size
  have := h2.size
  have := h3.size
  have := h4.size
  have := h5.size
  simp at *
  repeat (first | with_reducible exact Below.refl _ _ | ((with_reducible refine Below.setCell ?_ ?_ _); rotate_left; focus (first | (simp; done) | (simp; omega) | omega)) | ((with_reducible refine Below.alloc ?_ ?_ _); rotate_left; focus (first | (simp; done) | (simp; omega) | omega)) | (with_reducible refine Below.drew ?_) | ((with_reducible refine Below.trans ?_ (Below.mono h5 ?_)); rotate_left; focus (first | (simp; done) | (simp; omega) | omega)) | ((with_reducible refine Below.trans ?_ (Below.mono h4 ?_)); rotate_left; focus (first | (simp; done) | (simp; omega) | omega)) | ((with_reducible refine Below.trans ?_ (Below.mono h3 ?_)); rotate_left; focus (first | (simp; done) | (simp; omega) | omega)) | ((with_reducible refine Below.trans ?_ (Below.mono h2 ?_)); rotate_left; focus (first | (simp; done) | (simp; omega) | omega)) | ((with_reducible refine Below.trans ?_ (Below.mono h1 ?_)); rotate_left; focus (first | (simp; done) | (simp; omega) | omega)))
theorem walk (a b : Int) (a0 : 0 ≤ a) (a1 : a < 18446744073709551616) (b0 : 0 ≤ b) (b1 : b < 18446744073709551616) (w : World) :
    Calls Try.prog 4 #[.int .u64 a, .int .u64 b] w fun e w' => e = .returned (.bool true) ∧ Below w.heap.size w w' := by
  by_cases hok : UnOK a b
  · exact walk_yes a b a0 a1 b0 b1 hok w
  · exact walk_no a b a0 a1 b0 b1 hok w
theorem own : ownKnob Try.prog.godebug = none := by kernel_rfl
theorem laidOut : laidOutB Try.prog = true := by kernel_rfl
set_option maxRecDepth 100000 in
theorem lifted (os : Os) (started : os.Started) (H : Type) (enc : TypeId × Value → H) :
    ReturnsInHanded {} Try.checked os 4 .any (Rows.headUnpacksSpec.pre6 enc Try.prog Try.f4 Rows.headUnpacksRow.domain false) (Rows.headUnpacksSpec.post enc Try.prog Try.f4 false true false false) := by
  refine returnsInHanded_of_change (C := Try.checked) own started (by kernel_rfl) Try.func4
    (ChangeSpec.witness6 (enc := enc) (C := Try.checked) false ⟨#[], #[.int .u64 0, .int .u64 0], []⟩ 8 (by kernel_rfl) (by kernel_rfl) (by kernel_rfl) (by kernel_rfl)) ?_
  intro W base args ds gs before hval0 hW hcnd _
  have hval : ∀ (j : Nat) t v, Try.f4.params[j]? = some t → args[j]? = some v → Value.okWide Try.prog W .any base t v := hval0
  have hW' := hW
  obtain ⟨p, q, hA0, hV, rfl, hfz, hnd⟩ := hW
  have hA : DataW.TrodAll enc Try.prog W 0 (fun _ => true) true Try.f4.params.toList args.toList ds p := hA0
  rw [Try.params4] at hA hval
  obtain ⟨v0, vs0, d0, ds0, p0, q0, hargs, rfl, rfl, h0, r0⟩ := trodAll_cons hA
  obtain ⟨v1, vs1, d1, ds1, p1, q1, rfl, rfl, rfl, h1, r1⟩ := trodAll_cons r0
  obtain ⟨rfl, rfl, rfl⟩ := trodAll_nil r1
  obtain rfl : args = #[v0, v1] := by cases args; simp_all
  obtain ⟨rfl, rfl⟩ := trodVars_none hV
  have k0 := h0
  have lt0 : ∀ x ∈ p0, x.block < W.heap.size := by obtain ⟨m, hm⟩ := k0; exact DataW.trod_lt m _ _ _ hm
  have k1 := h1
  have lt1 : ∀ x ∈ p1, x.block < W.heap.size := by obtain ⟨m, hm⟩ := k1; exact DataW.trod_lt m _ _ _ hm
  obtain ⟨a0, rfl, rfl, rfl, w0⟩ := open_int Try.underlying23 (hval 0 23 v0 rfl rfl) h0
  obtain ⟨a1, rfl, rfl, rfl, w1⟩ := open_int Try.underlying23 (hval 1 23 v1 rfl rfl) h1
  have b0 := bounds_u64 w0
  have b1 := bounds_u64 w1
  clear hA0 hval0
  refine (walk a0 a1 b0.1 (by omega) b1.1 (by omega) W).mono fun e W' ⟨he, bel⟩ => ?_
  subst he
  exact ⟨_, rfl, _, _, _, [], _, [], hW', trodAll_mk1 (shut_bool Try.underlying4 _), (trodAll_cons_mk (Below.trod laidOut (by kernel_rfl) (of_decide_eq_true (by kernel_rfl)) k0 bel lt0) (trodAll_cons_mk (Below.trod laidOut (by kernel_rfl) (of_decide_eq_true (by kernel_rfl)) k1 bel lt1) trodAll_mk0)), rfl, bel.frame _, fun h => by cases h⟩
theorem over : Rows.headUnpacksRow.holds Try.pinned (OpenSpec.ofChange Rows.headUnpacksSpec) :=
  OpenClaim.holds_of_wide 4 Try.f4 rfl rfl rfl rfl rfl rfl rfl ⟨rfl, rfl, rfl, rfl, rfl⟩ rfl rfl rfl rfl rfl (by kernel_rfl) Try.func4 (by kernel_rfl)
    (of_decide_eq_true (by kernel_rfl)) (by unfold Func.isWrapper; rw [if_neg (by decide +kernel)]; exact ⟨rfl, rfl⟩)
    (fun os started H enc _ => lifted os started H enc)
theorem proved : Rows.HeadUnpacksSaid := over
end Go.Proofs.Ytmbfkagoiijjmaa.headUnpacks
