/- Layer 3 (head): the references' heads, heads of the law, cells. -/
import Derived.Test.YtmbfkagoiijjmaaHeadB
namespace Go.Proofs.Ytmbfkagoiijjmaa
open Go.RowKit
set_option maxRecDepth 100000 in
theorem own_any (c k s h : Int) (m : Bool) (w : World) :
    Calls Try.prog 15 #[.agg #[.int .u64 c, .int .i64 k, .int .i64 s, .int .u32 h, .bool m]] w fun e w' => e = .returned (.agg #[.int .u64 c, .int .i64 k, .int .i64 s, .int .u32 h, .bool m]) ∧ Below w.heap.size w w' := by
  go_enter Try.func15, Try.ntmps15
  go_wp2
  refine bodyPost_ret (v := .agg #[.int .u64 c, .int .i64 k, .int .i64 s, .int .u32 h, .bool m]) (by simp [results, Try.results15, go_sem]) rfl ⟨rfl, ?_⟩
  go_light
  repeat (first | with_reducible exact Below.refl _ _ | ((with_reducible refine Below.setCell ?_ ?_ _); rotate_left; focus (first | (simp; done) | (simp; omega) | omega)) | ((with_reducible refine Below.alloc ?_ ?_ _); rotate_left; focus (first | (simp; done) | (simp; omega) | omega)) | (with_reducible refine Below.drew ?_))
set_option maxRecDepth 100000 in
theorem rpack_no (c k s h : Int) (m : Bool) (h0 : 0 ≤ c) (hz : checkZ c k s h ≠ 0) (w : World) :
    Calls Try.prog 17 #[.agg #[.int .u64 c, .int .i64 k, .int .i64 s, .int .u32 h, .bool m]] w fun e w' => e = .returned (.tuple #[.agg #[.int .u64 0, .int .u64 0], .int .i64 (checkZ c k s h)]) ∧ Below w.heap.size w w' := by
  have HZ := Lib.hid hz; clear hz
  go_enter Try.func17, Try.ntmps17
  go_wp2_with (go_at_call 34; refine (risis_any c h0 _).mono ?_; rintro e w' ⟨rfl, rfl⟩)
  all_goals first
    | (exfalso; refine HZ.out (checkZ_ok.2 ?_); go_light; omega)
    | (refine bodyPost_ret (v := .tuple #[.agg #[.int .u64 0, .int .u64 0], .int .i64 (checkZ c k s h)]) ?_ rfl ⟨rfl, ?_⟩
       · simp [results, Try.results17, go_sem]; go_light; unfold checkZ; repeat (first | rw [if_pos (by omega)] | rw [if_neg (by omega)])
       · go_light
         repeat (first | with_reducible exact Below.refl _ _ | ((with_reducible refine Below.setCell ?_ ?_ _); rotate_left; focus (first | (simp; done) | (simp; omega) | omega)) | ((with_reducible refine Below.alloc ?_ ?_ _); rotate_left; focus (first | (simp; done) | (simp; omega) | omega)) | (with_reducible refine Below.drew ?_)))
set_option maxRecDepth 100000 in
theorem rpack_yes (c k s h : Int) (m : Bool) (h0 : 0 ≤ c) (hh : 0 ≤ h) (hz : checkZ c k s h = 0) (w : World) :
    Calls Try.prog 17 #[.agg #[.int .u64 c, .int .i64 k, .int .i64 s, .int .u32 h, .bool m]] w fun e w' => e = .returned (.tuple #[.agg #[.int .u64 c, .int .u64 (packZ k s h m)], .int .i64 0]) ∧ Below w.heap.size w w' := by
  obtain ⟨a0, a1, s0, s1, hh1, k0, k1⟩ := checkZ_ok.1 hz
  clear hz
  go_enter Try.func17, Try.ntmps17
  cases m
  all_goals
    go_wp2_with (go_at_call 34; refine (risis_any c h0 _).mono ?_; rintro e w' ⟨rfl, rfl⟩)
    try any_goals (exfalso; go_light; omega)
    refine bodyPost_ret (v := .tuple #[.agg #[.int .u64 c, .int .u64 (packZ k s h _)], .int .i64 0]) ?_ rfl ⟨rfl, ?_⟩
    · simp [results, Try.results17, go_sem]; unfold packZ; simp
    · go_light
      repeat (first | with_reducible exact Below.refl _ _ | ((with_reducible refine Below.setCell ?_ ?_ _); rotate_left; focus (first | (simp; done) | (simp; omega) | omega)) | ((with_reducible refine Below.alloc ?_ ?_ _); rotate_left; focus (first | (simp; done) | (simp; omega) | omega)) | (with_reducible refine Below.drew ?_))
set_option maxRecDepth 100000 in
theorem runpack_yes (a b : Int) (a0 : 0 ≤ a) (b0 : 0 ≤ b) (b1 : b < 18446744073709551616) (hok : UnOK a b) (w : World) :
    Calls Try.prog 14 #[.agg #[.int .u64 a, .int .u64 b]] w fun e w' => e = .returned (.tuple #[.agg #[.int .u64 a, .int .i64 (hK b), .int .i64 (hS b), .int .u32 (hH b), .bool (hM b)], .bool true]) ∧ Below w.heap.size w w' := by
  obtain ⟨c0, c1, c2, c3, c4⟩ := hok
  have f1 : b % 4294967296 ≤ 1048576 := c2
  have f2 : b / 4294967296 % 16 ≤ 2 := c3
  have f3 : (b / 4294967296 / 16 / 2 % 8 != 0) = false := by rw [bne_eq_false_iff_eq]; omega
  clear c2 c3 c4
  have h1 := Lib.hid (show b / 4294967296 / 16 / 2 / 8 = hH b by unfold hH; omega)
  have h2 := Lib.hid (show (b / 4294967296 / 16 % 2 == 1) = hM b by unfold hM; rw [Bool.eq_iff_iff]; simp; omega)
  go_enter Try.func14, Try.ntmps14
  go_wp2_with (go_at_call 34; refine (risis_any a a0 _).mono ?_; rintro e w' ⟨rfl, rfl⟩)
  try any_goals (exfalso; go_light; omega)
  refine bodyPost_ret (v := .tuple #[.agg #[.int .u64 a, .int .i64 (hK b), .int .i64 (hS b), .int .u32 (hH b), .bool (hM b)], .bool true]) ?_ rfl ⟨rfl, ?_⟩
  · simp [results, Try.results14, go_sem, h1.out, h2.out]; exact ⟨rfl, rfl⟩
  · go_light
    repeat (first | with_reducible exact Below.refl _ _ | ((with_reducible refine Below.setCell ?_ ?_ _); rotate_left; focus (first | (simp; done) | (simp; omega) | omega)) | ((with_reducible refine Below.alloc ?_ ?_ _); rotate_left; focus (first | (simp; done) | (simp; omega) | omega)) | (with_reducible refine Below.drew ?_))
set_option maxRecDepth 100000 in
theorem runpack_no (a b : Int) (a0 : 0 ≤ a) (b0 : 0 ≤ b) (b1 : b < 18446744073709551616) (hok : ¬ UnOK a b) (w : World) :
    Calls Try.prog 14 #[.agg #[.int .u64 a, .int .u64 b]] w fun e w' => e = .returned (.tuple #[.agg #[.int .u64 0, .int .i64 0, .int .i64 0, .int .u32 0, .bool false], .bool false]) ∧ Below w.heap.size w w' := by
  have HN := Lib.hid hok; clear hok
  go_enter Try.func14, Try.ntmps14
  go_wp2_with (go_at_call 34; refine (risis_any a a0 _).mono ?_; rintro e w' ⟨rfl, rfl⟩)
  all_goals first
    | (exfalso; refine HN.out ?_; unfold UnOK hS hK; go_light; omega)
    | (refine bodyPost_ret (v := .tuple #[.agg #[.int .u64 0, .int .i64 0, .int .i64 0, .int .u32 0, .bool false], .bool false]) ?_ rfl ⟨rfl, ?_⟩
       · simp [results, Try.results14, go_sem]
       · go_light
         repeat (first | with_reducible exact Below.refl _ _ | ((with_reducible refine Below.setCell ?_ ?_ _); rotate_left; focus (first | (simp; done) | (simp; omega) | omega)) | ((with_reducible refine Below.alloc ?_ ?_ _); rotate_left; focus (first | (simp; done) | (simp; omega) | omega)) | (with_reducible refine Below.drew ?_)))
end Go.Proofs.Ytmbfkagoiijjmaa
