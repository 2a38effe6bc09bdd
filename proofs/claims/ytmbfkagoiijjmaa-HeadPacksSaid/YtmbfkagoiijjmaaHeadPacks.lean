/- HeadPacks: what stands ahead of an object is packed in two words, just where it may be, and read back: for every head. -/
import Derived.Test.YtmbfkagoiijjmaaHeadD
import Derived.Test.YtmbfkagoiijjmaaHeadOpen
import Derived.ProofKit
import Derived.OpenShut
import Derived.ChangeOld
namespace Go.Proofs.Ytmbfkagoiijjmaa
theorem unOK_pack {c k s h : Int} (m : Bool) (hz : checkZ c k s h = 0) (hh : 0 ≤ h) :
    UnOK c (packZ k s h m) ∧ hK (packZ k s h m) = k ∧ hS (packZ k s h m) = s ∧ hH (packZ k s h m) = h ∧ hM (packZ k s h m) = m ∧ 0 ≤ packZ k s h m ∧ packZ k s h m < 18446744073709551616 := by
  obtain ⟨a0, a1, s0, s1, hh1, k0, k1⟩ := checkZ_ok.1 hz
  unfold UnOK hK hS hH hM packZ
  cases m <;> simp <;> omega
end Go.Proofs.Ytmbfkagoiijjmaa
namespace Go.Proofs.Ytmbfkagoiijjmaa.headPacks
open Go.ChangeShapes Go.WideShapes Go.ChangeAt Go.RowKit
set_option linter.unusedVariables false
set_option maxRecDepth 100000 in
set_option maxHeartbeats 400000 in
theorem walk_no (c k s h : Int) (m : Bool) (h0 : 0 ≤ c) (h1 : c < 18446744073709551616) (hh : 0 ≤ h) (hz : checkZ c k s h ≠ 0) (w : World) :
    Calls Try.prog 5 #[.agg #[.int .u64 c, .int .i64 k, .int .i64 s, .int .u32 h, .bool m]] w fun e w' => e = .returned (.bool true) ∧ Below w.heap.size w w' := by
  have C := Lib.hid (pack_no c k s h m h0 h1 hz)
  have D := Lib.hid (rpack_no c k s h m h0 hz)
  have E1 := Lib.hid (cells_any c k s h m h0 h1)
  have E2 := Lib.hid (rcells_any c k s h m h0 hh)
  have hb := checkZ_bd c k s h
  have hcb := cellsZ_bd c k s h
  generalize checkZ c k s h = z at *
  generalize cellsZ c k s h = y at *
  obtain ⟨hb0, hb1⟩ := hb
  obtain ⟨hy0, hy1⟩ := hcb
  have hz1 : 1 ≤ z := by omega
  clear hz hb0
  have hq := eq_words
  have hg0 := guard_words
  go_enter Try.func5, Try.ntmps5
  go_wp2_with fail
  refine (awake3 _).mono ?_; rintro e w1 ⟨rfl, hg⟩
  obtain ⟨hc, hf⟩ := bcell hg; have hs := hg.size; (try simp at hs); have hs0 : w.heap.size < w1.heap.size := (by omega); have HG := Lib.hid hg; clear hg
  go_wp2_with fail
  refine (own_any c k s h m _).mono ?_; rintro e w2 ⟨rfl, hg⟩
  obtain ⟨hc2, hf2⟩ := bcell hg; have hs2 := hg.size; have hs20 : w.heap.size < w2.heap.size := (by omega); have H2 := Lib.hid hg; clear hg
  go_wp2_with fail
  refine (C.out _).mono ?_; rintro e w3 ⟨rfl, hg⟩
  obtain ⟨hc3, hf3⟩ := bcell hg; have hs3 := hg.size; have hs30 : w.heap.size < w3.heap.size := (by omega); have H3 := Lib.hid hg; clear hg
  go_wp2_with fail
  refine (D.out _).mono ?_; rintro e w4 ⟨rfl, hg⟩
  obtain ⟨hc4, hf4⟩ := bcell hg; have hs4 := hg.size; (try simp at hs4); have hs40 : w.heap.size < w4.heap.size := (by omega); have hs41 : w3.heap.size < w4.heap.size := (by omega); have H4 := Lib.hid hg; clear hg
  go_wp2_with fail
  (refine wp_region_later (by kernel_rfl) (by kernel_rfl) ?_; (repeat (go_big_quiet_step ((first | (go_at_call 15; exact calls_later (fun W => own_any c k s h m W)) | (go_at_call 18; exact calls_later E1.out) | (go_at_call 19; exact calls_later E2.out))))); refine wpQuiet_nil ?_; intro w5 hw4; have hg := later_elim hw4; clear hw4)
  have H5 := Lib.hid hg; clear hg
  go_wp2_with fail
  go_ret
  refine ⟨rfl, ?_⟩
  go_light
  have g1 := HG.out
  have g2 := H2.out
  have g3 := H3.out
  have g4 := H4.out
  have g5 := H5.out
  have := g1.size
  have := g2.size
  have := g3.size
  have := g4.size
  have := g5.size
  simp at *
  repeat (first | with_reducible exact Below.refl _ _ | ((with_reducible refine Below.setCell ?_ ?_ _); rotate_left; focus (first | (simp; done) | (simp; omega) | omega)) | ((with_reducible refine Below.alloc ?_ ?_ _); rotate_left; focus (first | (simp; done) | (simp; omega) | omega)) | (with_reducible refine Below.drew ?_) | ((with_reducible refine Below.trans ?_ (Below.mono g5 ?_)); rotate_left; focus (first | (simp; done) | (simp; omega) | omega)) | ((with_reducible refine Below.trans ?_ (Below.mono g4 ?_)); rotate_left; focus (first | (simp; done) | (simp; omega) | omega)) | ((with_reducible refine Below.trans ?_ (Below.mono g3 ?_)); rotate_left; focus (first | (simp; done) | (simp; omega) | omega)) | ((with_reducible refine Below.trans ?_ (Below.mono g2 ?_)); rotate_left; focus (first | (simp; done) | (simp; omega) | omega)) | ((with_reducible refine Below.trans ?_ (Below.mono g1 ?_)); rotate_left; focus (first | (simp; done) | (simp; omega) | omega)))
set_option maxRecDepth 100000 in
set_option maxHeartbeats 400000 in
theorem walk_yes (c k s h : Int) (m : Bool) (h0 : 0 ≤ c) (h1 : c < 18446744073709551616) (hh : 0 ≤ h) (hz : checkZ c k s h = 0) (w : World) :
    Calls Try.prog 5 #[.agg #[.int .u64 c, .int .i64 k, .int .i64 s, .int .u32 h, .bool m]] w fun e w' => e = .returned (.bool true) ∧ Below w.heap.size w w' := by
  have C := Lib.hid (pack_yes c k s h m h0 h1 hh hz)
  have D := Lib.hid (rpack_yes c k s h m h0 hh hz)
  have E1 := Lib.hid (cells_any c k s h m h0 h1)
  have E2 := Lib.hid (rcells_any c k s h m h0 hh)
  have hcb := cellsZ_bd c k s h
  obtain ⟨u1, u2, u3, u4, u5, u6, u7⟩ := unOK_pack m hz hh
  have un := unpack_yes c (packZ k s h m) h0 h1 u6 u7 u1
  rw [u2, u3, u4, u5] at un
  have UN := Lib.hid un
  clear un u1 u2 u3 u4 u5
  generalize packZ k s h m = z at *
  generalize cellsZ c k s h = y at *
  obtain ⟨hy0, hy1⟩ := hcb
  clear hz
  have hq := eq_words
  have hg0 := guard_words
  go_enter Try.func5, Try.ntmps5
  go_wp2_with fail
  refine (awake3 _).mono ?_; rintro e w1 ⟨rfl, hg⟩
  obtain ⟨hc, hf⟩ := bcell hg; have hs := hg.size; (try simp at hs); have hs0 : w.heap.size < w1.heap.size := (by omega); have HG := Lib.hid hg; clear hg
  go_wp2_with fail
  refine (own_any c k s h m _).mono ?_; rintro e w2 ⟨rfl, hg⟩
  obtain ⟨hc2, hf2⟩ := bcell hg; have hs2 := hg.size; have hs20 : w.heap.size < w2.heap.size := (by omega); have H2 := Lib.hid hg; clear hg
  go_wp2_with fail
  refine (C.out _).mono ?_; rintro e w3 ⟨rfl, hg⟩
  obtain ⟨hc3, hf3⟩ := bcell hg; have hs3 := hg.size; have hs30 : w.heap.size < w3.heap.size := (by omega); have H3 := Lib.hid hg; clear hg
  go_wp2_with fail
  refine (D.out _).mono ?_; rintro e w4 ⟨rfl, hg⟩
  obtain ⟨hc4, hf4⟩ := bcell hg; have hs4 := hg.size; (try simp at hs4); have hs40 : w.heap.size < w4.heap.size := (by omega); have hs41 : w3.heap.size < w4.heap.size := (by omega); have H4 := Lib.hid hg; clear hg
  go_wp2_with fail
  (refine wp_region_later (by kernel_rfl) (by kernel_rfl) ?_; (repeat (go_big_quiet_step ((first | (go_at_call 15; exact calls_later (fun W => own_any c k s h m W)) | (go_at_call 18; exact calls_later E1.out) | (go_at_call 19; exact calls_later E2.out))))); refine wpQuiet_nil ?_; intro w5 hw4; have hg := later_elim hw4; clear hw4)
  obtain ⟨hc5, hf5⟩ := bcell hg; have hs5 := hg.size; (try simp at hs5); have hs50 : w.heap.size < w5.heap.size := (by omega); have hs51 : w3.heap.size < w5.heap.size := (by omega); have H5 := Lib.hid hg; clear hg
  go_wp2_with fail
  refine (UN.out _).mono ?_; rintro e w6 ⟨rfl, hg⟩
  obtain ⟨hc6, hf6⟩ := bcell hg; have hs6 := hg.size; (try simp at hs6); have hs60 : w.heap.size < w6.heap.size := (by omega); have hs61 : w3.heap.size < w6.heap.size := (by omega); have H6 := Lib.hid hg; clear hg
  go_wp2_with fail
  (refine wp_region_later (by kernel_rfl) (by kernel_rfl) ?_; (repeat (go_big_quiet_step ((go_at_call 15; exact calls_later (fun W => own_any c k s h m W))))); refine wpQuiet_nil ?_; intro w7 hw4; have hg := later_elim hw4; clear hw4)
  have H7 := Lib.hid hg; clear hg
  go_wp2_with fail
  go_ret
  refine ⟨rfl, ?_⟩
  go_light
  have g1 := HG.out
  have g2 := H2.out
  have g3 := H3.out
  have g4 := H4.out
  have g5 := H5.out
  have g6 := H6.out
  have g7 := H7.out
  have := g1.size
  have := g2.size
  have := g3.size
  have := g4.size
  have := g5.size
  have := g6.size
  have := g7.size
  simp at *
  repeat (first | with_reducible exact Below.refl _ _ | ((with_reducible refine Below.setCell ?_ ?_ _); rotate_left; focus (first | (simp; done) | (simp; omega) | omega)) | ((with_reducible refine Below.alloc ?_ ?_ _); rotate_left; focus (first | (simp; done) | (simp; omega) | omega)) | (with_reducible refine Below.drew ?_) | ((with_reducible refine Below.trans ?_ (Below.mono g7 ?_)); rotate_left; focus (first | (simp; done) | (simp; omega) | omega)) | ((with_reducible refine Below.trans ?_ (Below.mono g6 ?_)); rotate_left; focus (first | (simp; done) | (simp; omega) | omega)) | ((with_reducible refine Below.trans ?_ (Below.mono g5 ?_)); rotate_left; focus (first | (simp; done) | (simp; omega) | omega)) | ((with_reducible refine Below.trans ?_ (Below.mono g4 ?_)); rotate_left; focus (first | (simp; done) | (simp; omega) | omega)) | ((with_reducible refine Below.trans ?_ (Below.mono g3 ?_)); rotate_left; focus (first | (simp; done) | (simp; omega) | omega)) | ((with_reducible refine Below.trans ?_ (Below.mono g2 ?_)); rotate_left; focus (first | (simp; done) | (simp; omega) | omega)) | ((with_reducible refine Below.trans ?_ (Below.mono g1 ?_)); rotate_left; focus (first | (simp; done) | (simp; omega) | omega)))
theorem walk (c k s h : Int) (m : Bool) (h0 : 0 ≤ c) (h1 : c < 18446744073709551616) (hh : 0 ≤ h) (w : World) :
    Calls Try.prog 5 #[.agg #[.int .u64 c, .int .i64 k, .int .i64 s, .int .u32 h, .bool m]] w fun e w' => e = .returned (.bool true) ∧ Below w.heap.size w w' := by
  by_cases hz : checkZ c k s h = 0
  · exact walk_yes c k s h m h0 h1 hh hz w
  · exact walk_no c k s h m h0 h1 hh hz w
theorem own : ownKnob Try.prog.godebug = none := by kernel_rfl
theorem laidOut : laidOutB Try.prog = true := by kernel_rfl
set_option maxRecDepth 100000 in
theorem lifted (os : Os) (started : os.Started) (H : Type) (enc : TypeId × Value → H) :
    ReturnsInHanded {} Try.checked os 5 .any (Rows.headPacksSpec.pre6 enc Try.prog Try.f5 Rows.headPacksRow.domain false) (Rows.headPacksSpec.post enc Try.prog Try.f5 false true false false) := by
  refine returnsInHanded_of_change (C := Try.checked) own started (by kernel_rfl) Try.func5
    (ChangeSpec.witness6 (enc := enc) (C := Try.checked) false ⟨#[], #[.agg #[.int .u64 0, .int .i64 0, .int .i64 0, .int .u32 0, .bool false]], []⟩ 8 (by kernel_rfl) (by kernel_rfl) (by kernel_rfl) (by kernel_rfl)) ?_
  intro W base args ds gs before hval0 hW hcnd _
  have hval : ∀ (j : Nat) t v, Try.f5.params[j]? = some t → args[j]? = some v → Value.okWide Try.prog W .any base t v := hval0
  have hW' := hW
  obtain ⟨p, q, hA0, hV, rfl, hfz, hnd⟩ := hW
  have hA : DataW.TrodAll enc Try.prog W 0 (fun _ => true) true Try.f5.params.toList args.toList ds p := hA0
  rw [Try.params5] at hA hval
  obtain ⟨v0, vs0, d0, ds0, p0, q0, hargs, rfl, rfl, h0, r0⟩ := trodAll_cons hA
  obtain ⟨rfl, rfl, rfl⟩ := trodAll_nil r0
  obtain rfl : args = #[v0] := by cases args; simp_all
  obtain ⟨rfl, rfl⟩ := trodVars_none hV
  have k0 := h0
  have lt0 : ∀ x ∈ p0, x.block < W.heap.size := by obtain ⟨m, hm⟩ := k0; exact DataW.trod_lt m _ _ _ hm
  obtain ⟨c, k, s, h, m, rfl, wc, wh⟩ := open_head (hval 0 38 v0 rfl rfl) h0
  have bc := bounds_u64 wc
  have bh := bounds_u32 wh
  clear hA0 hval0
  refine (walk c k s h m bc.1 (by omega) bh.1 W).mono fun e W' ⟨he, bel⟩ => ?_
  subst he
  exact ⟨_, rfl, _, _, _, [], _, [], hW', trodAll_mk1 (shut_bool Try.underlying4 _), (trodAll_cons_mk (Below.trod laidOut (by kernel_rfl) (of_decide_eq_true (by kernel_rfl)) k0 bel lt0) trodAll_mk0), rfl, bel.frame _, fun h => by cases h⟩
theorem over : Rows.headPacksRow.holds Try.pinned (OpenSpec.ofChange Rows.headPacksSpec) :=
  OpenClaim.holds_of_wide 5 Try.f5 rfl rfl rfl rfl rfl rfl rfl ⟨rfl, rfl, rfl, rfl, rfl⟩ rfl rfl rfl rfl rfl (by kernel_rfl) Try.func5 (by kernel_rfl)
    (of_decide_eq_true (by kernel_rfl)) (by unfold Func.isWrapper; rw [if_neg (by decide +kernel)]; exact ⟨rfl, rfl⟩)
    (fun os started H enc _ => lifted os started H enc)
theorem proved : Rows.HeadPacksSaid := over
end Go.Proofs.Ytmbfkagoiijjmaa.headPacks
