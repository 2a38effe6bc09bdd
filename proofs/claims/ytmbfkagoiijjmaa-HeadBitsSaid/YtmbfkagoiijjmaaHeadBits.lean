/- HeadBits: a head with one bit turned is another head, or none: for every head and every bit. -/
import Derived.Test.YtmbfkagoiijjmaaHeadPacks
namespace Go.Proofs.Ytmbfkagoiijjmaa
open Go.RowKit
/-- a word with one bit turned is another word -/
theorem xor_bit (x : Int) (i : Nat) (h0 : 0 ≤ x) (h1 : x < 18446744073709551616) (hi : i < 64) :
    0 ≤ bits BinOp.xor IntKind.u64 x (IntKind.u64.wrap (2 ^ i)) ∧ bits BinOp.xor IntKind.u64 x (IntKind.u64.wrap (2 ^ i)) < 18446744073709551616 ∧ bits BinOp.xor IntKind.u64 x (IntKind.u64.wrap (2 ^ i)) ≠ x := by
  obtain ⟨x, rfl⟩ := Int.eq_ofNat_of_zero_le h0
  have h2 : (2 : Nat) ^ i < 2 ^ 64 := Nat.pow_lt_pow_right (by omega) hi
  have e : IntKind.u64.wrap (2 ^ i) = ((2 ^ i : Nat) : Int) := by
    rw [IntKind.wrap_u64]
    have h2' : (2 : Nat) ^ i < 18446744073709551616 := h2
    rw [show ((2 : Int) ^ i) = ((2 ^ i : Nat) : Int) from by push_cast; rfl]
    exact Int.emod_eq_of_lt (Int.natCast_nonneg _) (by omega)
  rw [e, u64_xor_nat _ _ (by omega) (by omega)]
  have h3 : x ^^^ 2 ^ i < 2 ^ 64 := Nat.xor_lt_two_pow (by omega) h2
  refine ⟨by omega, by omega, ?_⟩
  intro h
  have h4 : x ^^^ 2 ^ i = x := by omega
  have h5 : (x ^^^ 2 ^ i).testBit i = x.testBit i := by rw [h4]
  rw [Nat.testBit_xor, Nat.testBit_two_pow_self] at h5
  cases hb : x.testBit i <;> simp [hb] at h5
theorem eq_heads (c k s h c' k' s' h' : Int) (m m' : Bool) (w : World) :
    (Op.equalIn 10000 33 (.agg #[.int .u64 c, .int .i64 k, .int .i64 s, .int .u32 h, .bool m]) (.agg #[.int .u64 c', .int .i64 k', .int .i64 s', .int .u32 h', .bool m'])).run Try.prog w =
      .ok (decide (c = c' ∧ k = k' ∧ s = s' ∧ h = h' ∧ m = m')) w := by
  rw [show (10000 : Nat) = 9999 + 1 from rfl]
  simp [go_sem]
  by_cases e1 : c = c' <;> by_cases e2 : k = k' <;> by_cases e3 : s = s' <;> by_cases e4 : h = h' <;> by_cases e5 : m = m' <;> simp [e1, e2, e3, e4, e5]
end Go.Proofs.Ytmbfkagoiijjmaa
namespace Go.Proofs.Ytmbfkagoiijjmaa.headBits
open Go.ChangeShapes Go.WideShapes Go.ChangeAt Go.RowKit
set_option linter.unusedVariables false
set_option maxRecDepth 100000 in
theorem walk_no (c k s h : Int) (m : Bool) (a : Int) (h0 : 0 ≤ c) (h1 : c < 18446744073709551616) (hh : 0 ≤ h) (hz : checkZ c k s h ≠ 0) (w : World) :
    Calls Try.prog 6 #[.agg #[.int .u64 c, .int .i64 k, .int .i64 s, .int .u32 h, .bool m], .int .i64 a] w fun e w' => e = .returned (.bool true) ∧ Below w.heap.size w w' := by
  have C := Lib.hid (pack_no c k s h m h0 h1 hz)
  have hb := checkZ_bd c k s h
  generalize checkZ c k s h = z at *
  obtain ⟨hb0, hb1⟩ := hb
  have hz1 : 1 ≤ z := by omega
  clear hz hb0
  go_enter Try.func6, Try.ntmps6
  go_wp2_with fail
  refine (awake3 _).mono ?_; rintro e w1 ⟨rfl, hg⟩
  obtain ⟨hc, hf⟩ := bcell hg; have hs := hg.size; (try simp at hs); have hs0 : w.heap.size < w1.heap.size := (by omega); have HG := Lib.hid hg; clear hg
  go_wp2_with fail
  refine (own_any c k s h m _).mono ?_; rintro e w2 ⟨rfl, hg⟩
  obtain ⟨hc2, hf2⟩ := bcell hg; have hs2 := hg.size; have hs20 : w.heap.size < w2.heap.size := (by omega); have H2 := Lib.hid hg; clear hg
  go_wp2_with fail
  refine (C.out _).mono ?_; rintro e w3 ⟨rfl, hg⟩
  have H3 := Lib.hid hg; clear hg
  go_wp2_with fail
  go_ret
  refine ⟨rfl, ?_⟩
  go_light
  have g1 := HG.out
  have g2 := H2.out
  have g3 := H3.out
  have := g1.size
  have := g2.size
  have := g3.size
  simp at *
  repeat (first | with_reducible exact Below.refl _ _ | ((with_reducible refine Below.setCell ?_ ?_ _); rotate_left; focus (first | (simp; done) | (simp; omega) | omega)) | ((with_reducible refine Below.alloc ?_ ?_ _); rotate_left; focus (first | (simp; done) | (simp; omega) | omega)) | (with_reducible refine Below.drew ?_) | ((with_reducible refine Below.trans ?_ (Below.mono g3 ?_)); rotate_left; focus (first | (simp; done) | (simp; omega) | omega)) | ((with_reducible refine Below.trans ?_ (Below.mono g2 ?_)); rotate_left; focus (first | (simp; done) | (simp; omega) | omega)) | ((with_reducible refine Below.trans ?_ (Below.mono g1 ?_)); rotate_left; focus (first | (simp; done) | (simp; omega) | omega)))
set_option maxRecDepth 100000 in
set_option maxHeartbeats 400000 in
theorem walk_yes (c k s h : Int) (m : Bool) (a : Int) (h0 : 0 ≤ c) (h1 : c < 18446744073709551616) (hh : 0 ≤ h) (hz : checkZ c k s h = 0) (w : World) :
    Calls Try.prog 6 #[.agg #[.int .u64 c, .int .i64 k, .int .i64 s, .int .u32 h, .bool m], .int .i64 a] w fun e w' => e = .returned (.bool true) ∧ Below w.heap.size w w' := by
  have C := Lib.hid (pack_yes c k s h m h0 h1 hh hz)
  obtain ⟨-, u2, u3, u4, u5, hz0, hz1⟩ := unOK_pack m hz hh
  have dif : Hid (∀ p q : Int, UnOK p q → ¬ (p = c ∧ q = packZ k s h m) → ¬ (p = c ∧ hK q = k ∧ hS q = s ∧ hH q = h ∧ hM q = m)) := by
    refine Lib.hid (fun p q hok hne he => hne ⟨he.1, ?_⟩)
    rw [← packZ_back.2 hok.2.2.2.2, he.2.1, he.2.2.1, he.2.2.2.1, he.2.2.2.2]
  generalize packZ k s h m = z at *
  clear u2 u3 u4 u5
  have t0 : -128 < a.tmod 128 := by have := Int.lt_tmod_of_pos a (show (0 : Int) < 128 by omega); omega
  have t1 : a.tmod 128 < 128 := Int.tmod_lt_of_pos a (by omega)
  have j0 : 0 ≤ (a.tmod 128 + 128) % 128 := by omega
  have j1 : (a.tmod 128 + 128) % 128 < 128 := by omega
  go_enter Try.func6, Try.ntmps6
  go_wp2_with fail
  refine (awake3 _).mono ?_; rintro e w1 ⟨rfl, hg⟩
  obtain ⟨hc, hf⟩ := bcell hg; have hs := hg.size; (try simp at hs); have hs0 : w.heap.size < w1.heap.size := (by omega); have HG := Lib.hid hg; clear hg
  go_wp2_with fail
  refine (own_any c k s h m _).mono ?_; rintro e w2 ⟨rfl, hg⟩
  obtain ⟨hc2, hf2⟩ := bcell hg; have hs2 := hg.size; have hs20 : w.heap.size < w2.heap.size := (by omega); have H2 := Lib.hid hg; clear hg
  go_wp2_with fail
  refine (C.out _).mono ?_; rintro e w3 ⟨rfl, hg⟩
  obtain ⟨hc3, hf3⟩ := bcell hg; have hs3 := hg.size; have hs30 : w.heap.size < w3.heap.size := (by omega); have H3 := Lib.hid hg; clear hg
  go_wp2_with fail
  generalize (a.tmod 128 + 128) % 128 = j at *
  by_cases hj : j < 64
  · have e1 : j / 64 = 0 := by omega
    have e2 : j % 64 = j := by omega
    have xb := xor_bit c j.toNat h0 h1 (by omega)
    go_region
    generalize bits BinOp.xor IntKind.u64 c (IntKind.u64.wrap (2 ^ j.toNat)) = p at *
    obtain ⟨p0, p1, p2⟩ := xb
    by_cases hok : UnOK p z
    · have U := Lib.hid (unpack_yes p z p0 p1 hz0 hz1 hok)
      have N := Lib.hid (fun W => (eq_heads p (hK z) (hS z) (hH z) c k s h (hM z) m W).trans (by rw [show decide (p = c ∧ hK z = k ∧ hS z = s ∧ hH z = h ∧ hM z = m) = false from by rw [decide_eq_false_iff_not]; exact dif.out p z hok (by exact fun e => p2 e.1)]))
      have L := Lib.hid (cells_any p (hK z) (hS z) (hH z) (hM z) p0 p1)
      have hcb := cellsZ_bd p (hK z) (hS z) (hH z)
      generalize cellsZ p (hK z) (hS z) (hH z) = y at *
      obtain ⟨y0, y1⟩ := hcb
      clear hok p2
      generalize hK z = k' at *
      generalize hS z = s' at *
      generalize hH z = h' at *
      generalize hM z = m' at *
      go_wp2_with fail
      refine (U.out _).mono ?_; rintro e w4 ⟨rfl, hg⟩
      obtain ⟨hc4, hf4⟩ := bcell hg; have hs4 := hg.size; (try simp at hs4); have hs40 : w.heap.size < w4.heap.size := (by omega); have H4 := Lib.hid hg; clear hg
      have n0 := N.out
      go_wp2_with fail
      (refine wp_region_later (by kernel_rfl) (by kernel_rfl) ?_; (repeat (go_big_quiet_step ((first | (go_at_call 15; exact calls_later (fun W => own_any c k s h m W)) | (go_at_call 18; exact calls_later L.out))))); refine wpQuiet_nil ?_; intro w5 hw4; have hg := later_elim hw4; clear hw4)
      have H5 := Lib.hid hg; clear hg
      go_wp2_with fail
      go_ret
      refine ⟨rfl, ?_⟩
      go_light
      have g1 := HG.out
      have g2 := H2.out
      have g3 := H3.out
      have g4 := H4.out
      have g5 := H5.out
      have := g1.size
      have := g2.size
      have := g3.size
      have := g4.size
      have := g5.size
      simp at *
      repeat (first | with_reducible exact Below.refl _ _ | ((with_reducible refine Below.setCell ?_ ?_ _); rotate_left; focus (first | (simp; done) | (simp; omega) | omega)) | ((with_reducible refine Below.alloc ?_ ?_ _); rotate_left; focus (first | (simp; done) | (simp; omega) | omega)) | (with_reducible refine Below.drew ?_) | ((with_reducible refine Below.trans ?_ (Below.mono g5 ?_)); rotate_left; focus (first | (simp; done) | (simp; omega) | omega)) | ((with_reducible refine Below.trans ?_ (Below.mono g4 ?_)); rotate_left; focus (first | (simp; done) | (simp; omega) | omega)) | ((with_reducible refine Below.trans ?_ (Below.mono g3 ?_)); rotate_left; focus (first | (simp; done) | (simp; omega) | omega)) | ((with_reducible refine Below.trans ?_ (Below.mono g2 ?_)); rotate_left; focus (first | (simp; done) | (simp; omega) | omega)) | ((with_reducible refine Below.trans ?_ (Below.mono g1 ?_)); rotate_left; focus (first | (simp; done) | (simp; omega) | omega)))
    · have U := Lib.hid (unpack_no p z p0 p1 hz0 hz1 hok)
      clear hok p2
      go_wp2_with fail
      refine (U.out _).mono ?_; rintro e w4 ⟨rfl, hg⟩
      have H4 := Lib.hid hg; clear hg
      go_wp2_with fail
      go_ret
      refine ⟨rfl, ?_⟩
      go_light
      have g1 := HG.out
      have g2 := H2.out
      have g3 := H3.out
      have g4 := H4.out
      have := g1.size
      have := g2.size
      have := g3.size
      have := g4.size
      simp at *
      repeat (first | with_reducible exact Below.refl _ _ | ((with_reducible refine Below.setCell ?_ ?_ _); rotate_left; focus (first | (simp; done) | (simp; omega) | omega)) | ((with_reducible refine Below.alloc ?_ ?_ _); rotate_left; focus (first | (simp; done) | (simp; omega) | omega)) | (with_reducible refine Below.drew ?_) | ((with_reducible refine Below.trans ?_ (Below.mono g4 ?_)); rotate_left; focus (first | (simp; done) | (simp; omega) | omega)) | ((with_reducible refine Below.trans ?_ (Below.mono g3 ?_)); rotate_left; focus (first | (simp; done) | (simp; omega) | omega)) | ((with_reducible refine Below.trans ?_ (Below.mono g2 ?_)); rotate_left; focus (first | (simp; done) | (simp; omega) | omega)) | ((with_reducible refine Below.trans ?_ (Below.mono g1 ?_)); rotate_left; focus (first | (simp; done) | (simp; omega) | omega)))
  · have e1 : j / 64 = 1 := by omega
    have i0 : 0 ≤ j % 64 := by omega
    have i1 : j % 64 < 64 := by omega
    have xb := xor_bit z (j % 64).toNat hz0 hz1 (by omega)
    go_region
    generalize bits BinOp.xor IntKind.u64 z (IntKind.u64.wrap (2 ^ (j % 64).toNat)) = p at *
    obtain ⟨p0, p1, p2⟩ := xb
    by_cases hok : UnOK c p
    · have U := Lib.hid (unpack_yes c p h0 h1 p0 p1 hok)
      have N := Lib.hid (fun W => (eq_heads c (hK p) (hS p) (hH p) c k s h (hM p) m W).trans (by rw [show decide (c = c ∧ hK p = k ∧ hS p = s ∧ hH p = h ∧ hM p = m) = false from by rw [decide_eq_false_iff_not]; exact dif.out c p hok (by exact fun e => p2 e.2)]))
      have L := Lib.hid (cells_any c (hK p) (hS p) (hH p) (hM p) h0 h1)
      have hcb := cellsZ_bd c (hK p) (hS p) (hH p)
      generalize cellsZ c (hK p) (hS p) (hH p) = y at *
      obtain ⟨y0, y1⟩ := hcb
      clear hok p2
      generalize hK p = k' at *
      generalize hS p = s' at *
      generalize hH p = h' at *
      generalize hM p = m' at *
      go_wp2_with fail
      refine (U.out _).mono ?_; rintro e w4 ⟨rfl, hg⟩
      obtain ⟨hc4, hf4⟩ := bcell hg; have hs4 := hg.size; (try simp at hs4); have hs40 : w.heap.size < w4.heap.size := (by omega); have H4 := Lib.hid hg; clear hg
      have n0 := N.out
      go_wp2_with fail
      (refine wp_region_later (by kernel_rfl) (by kernel_rfl) ?_; (repeat (go_big_quiet_step ((first | (go_at_call 15; exact calls_later (fun W => own_any c k s h m W)) | (go_at_call 18; exact calls_later L.out))))); refine wpQuiet_nil ?_; intro w5 hw4; have hg := later_elim hw4; clear hw4)
      have H5 := Lib.hid hg; clear hg
      go_wp2_with fail
      go_ret
      refine ⟨rfl, ?_⟩
      go_light
      have g1 := HG.out
      have g2 := H2.out
      have g3 := H3.out
      have g4 := H4.out
      have g5 := H5.out
      have := g1.size
      have := g2.size
      have := g3.size
      have := g4.size
      have := g5.size
      simp at *
      repeat (first | with_reducible exact Below.refl _ _ | ((with_reducible refine Below.setCell ?_ ?_ _); rotate_left; focus (first | (simp; done) | (simp; omega) | omega)) | ((with_reducible refine Below.alloc ?_ ?_ _); rotate_left; focus (first | (simp; done) | (simp; omega) | omega)) | (with_reducible refine Below.drew ?_) | ((with_reducible refine Below.trans ?_ (Below.mono g5 ?_)); rotate_left; focus (first | (simp; done) | (simp; omega) | omega)) | ((with_reducible refine Below.trans ?_ (Below.mono g4 ?_)); rotate_left; focus (first | (simp; done) | (simp; omega) | omega)) | ((with_reducible refine Below.trans ?_ (Below.mono g3 ?_)); rotate_left; focus (first | (simp; done) | (simp; omega) | omega)) | ((with_reducible refine Below.trans ?_ (Below.mono g2 ?_)); rotate_left; focus (first | (simp; done) | (simp; omega) | omega)) | ((with_reducible refine Below.trans ?_ (Below.mono g1 ?_)); rotate_left; focus (first | (simp; done) | (simp; omega) | omega)))
    · have U := Lib.hid (unpack_no c p h0 h1 p0 p1 hok)
      clear hok p2
      go_wp2_with fail
      refine (U.out _).mono ?_; rintro e w4 ⟨rfl, hg⟩
      have H4 := Lib.hid hg; clear hg
      go_wp2_with fail
      go_ret
      refine ⟨rfl, ?_⟩
      go_light
      have g1 := HG.out
      have g2 := H2.out
      have g3 := H3.out
      have g4 := H4.out
      have := g1.size
      have := g2.size
      have := g3.size
      have := g4.size
      simp at *
      repeat (first | with_reducible exact Below.refl _ _ | ((with_reducible refine Below.setCell ?_ ?_ _); rotate_left; focus (first | (simp; done) | (simp; omega) | omega)) | ((with_reducible refine Below.alloc ?_ ?_ _); rotate_left; focus (first | (simp; done) | (simp; omega) | omega)) | (with_reducible refine Below.drew ?_) | ((with_reducible refine Below.trans ?_ (Below.mono g4 ?_)); rotate_left; focus (first | (simp; done) | (simp; omega) | omega)) | ((with_reducible refine Below.trans ?_ (Below.mono g3 ?_)); rotate_left; focus (first | (simp; done) | (simp; omega) | omega)) | ((with_reducible refine Below.trans ?_ (Below.mono g2 ?_)); rotate_left; focus (first | (simp; done) | (simp; omega) | omega)) | ((with_reducible refine Below.trans ?_ (Below.mono g1 ?_)); rotate_left; focus (first | (simp; done) | (simp; omega) | omega)))
theorem walk (c k s h : Int) (m : Bool) (a : Int) (h0 : 0 ≤ c) (h1 : c < 18446744073709551616) (hh : 0 ≤ h) (w : World) :
    Calls Try.prog 6 #[.agg #[.int .u64 c, .int .i64 k, .int .i64 s, .int .u32 h, .bool m], .int .i64 a] w fun e w' => e = .returned (.bool true) ∧ Below w.heap.size w w' := by
  by_cases hz : checkZ c k s h = 0
  · exact walk_yes c k s h m a h0 h1 hh hz w
  · exact walk_no c k s h m a h0 h1 hh hz w
theorem own : ownKnob Try.prog.godebug = none := by kernel_rfl
theorem laidOut : laidOutB Try.prog = true := by kernel_rfl
set_option maxRecDepth 100000 in
theorem lifted (os : Os) (started : os.Started) (H : Type) (enc : TypeId × Value → H) :
    ReturnsInHanded {} Try.checked os 6 .any (Rows.headBitsSpec.pre6 enc Try.prog Try.f6 Rows.headBitsRow.domain false) (Rows.headBitsSpec.post enc Try.prog Try.f6 false true false false) := by
  refine returnsInHanded_of_change (C := Try.checked) own started (by kernel_rfl) Try.func6
    (ChangeSpec.witness6 (enc := enc) (C := Try.checked) false ⟨#[], #[.agg #[.int .u64 0, .int .i64 0, .int .i64 0, .int .u32 0, .bool false], .int .i64 0], []⟩ 8 (by kernel_rfl) (by kernel_rfl) (by kernel_rfl) (by kernel_rfl)) ?_
  intro W base args ds gs before hval0 hW hcnd _
  have hval : ∀ (j : Nat) t v, Try.f6.params[j]? = some t → args[j]? = some v → Value.okWide Try.prog W .any base t v := hval0
  have hW' := hW
  obtain ⟨p, q, hA0, hV, rfl, hfz, hnd⟩ := hW
  have hA : DataW.TrodAll enc Try.prog W 0 (fun _ => true) true Try.f6.params.toList args.toList ds p := hA0
  rw [Try.params6] at hA hval
  obtain ⟨v0, vs0, d0, ds0, p0, q0, hargs, rfl, rfl, h0, r0⟩ := trodAll_cons hA
  obtain ⟨v1, vs1, d1, ds1, p1, q1, rfl, rfl, rfl, h1, r1⟩ := trodAll_cons r0
  obtain ⟨rfl, rfl, rfl⟩ := trodAll_nil r1
  obtain rfl : args = #[v0, v1] := by cases args; simp_all
  obtain ⟨rfl, rfl⟩ := trodVars_none hV
  have k0 := h0
  have lt0 : ∀ x ∈ p0, x.block < W.heap.size := by obtain ⟨m, hm⟩ := k0; exact DataW.trod_lt m _ _ _ hm
  have k1 := h1
  have lt1 : ∀ x ∈ p1, x.block < W.heap.size := by obtain ⟨m, hm⟩ := k1; exact DataW.trod_lt m _ _ _ hm
  obtain ⟨c, k, s, h, m, rfl, wc, wh⟩ := open_head (hval 0 38 v0 rfl rfl) h0
  have bc := bounds_u64 wc
  have bh := bounds_u32 wh
  obtain ⟨a1, rfl, rfl, rfl, w1⟩ := open_int Try.underlying3 (hval 1 3 v1 rfl rfl) h1
  clear hA0 hval0
  refine (walk c k s h m a1 bc.1 (by omega) bh.1 W).mono fun e W' ⟨he, bel⟩ => ?_
  subst he
  exact ⟨_, rfl, _, _, _, [], _, [], hW', trodAll_mk1 (shut_bool Try.underlying4 _), (trodAll_cons_mk (Below.trod laidOut (by kernel_rfl) (of_decide_eq_true (by kernel_rfl)) k0 bel lt0) (trodAll_cons_mk (Below.trod laidOut (by kernel_rfl) (of_decide_eq_true (by kernel_rfl)) k1 bel lt1) trodAll_mk0)), rfl, bel.frame _, fun h => by cases h⟩
theorem over : Rows.headBitsRow.holds Try.pinned (OpenSpec.ofChange Rows.headBitsSpec) :=
  OpenClaim.holds_of_wide 6 Try.f6 rfl rfl rfl rfl rfl rfl rfl ⟨rfl, rfl, rfl, rfl, rfl⟩ rfl rfl rfl rfl rfl (by kernel_rfl) Try.func6 (by kernel_rfl)
    (of_decide_eq_true (by kernel_rfl)) (by unfold Func.isWrapper; rw [if_neg (by decide +kernel)]; exact ⟨rfl, rfl⟩)
    (fun os started H enc _ => lifted os started H enc)
theorem proved : Rows.HeadBitsSaid := over
end Go.Proofs.Ytmbfkagoiijjmaa.headBits
