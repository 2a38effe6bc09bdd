/- Layer 3 (head): the references' heads, heads of the law, cells. -/
import Derived.Test.YtaillinlbbhdkaaDoorHeadB
namespace Go.Proofs.YtaillinlbbhdkaaDoor
open Go.RowKit
set_option maxRecDepth 100000 in
theorem rpack_no (c k s h : Int) (m : Bool) (h0 : 0 ≤ c) (hz : checkZ c k s h ≠ 0) (w : World) :
    Calls Tryd.prog 42 #[.agg #[.int .u64 c, .int .i64 k, .int .i64 s, .int .u32 h, .bool m]] w fun e w' => e = .returned (.tuple #[.agg #[.int .u64 0, .int .u64 0], .int .i64 (checkZ c k s h)]) ∧ Below w.heap.size w w' := by
  have HZ := Lib.hid hz; clear hz
  go_enter Tryd.func42, Tryd.ntmps42
  go_wp2_with (go_at_call 60; refine (risis_any c h0 _).mono ?_; rintro e w' ⟨rfl, rfl⟩)
  all_goals first
    | (exfalso; refine HZ.out (checkZ_ok.2 ?_); go_light; omega)
    | (refine bodyPost_ret (v := .tuple #[.agg #[.int .u64 0, .int .u64 0], .int .i64 (checkZ c k s h)]) ?_ rfl ⟨rfl, ?_⟩
       · simp [results, Tryd.results42, go_sem]; go_light; unfold checkZ; repeat (first | rw [if_pos (by omega)] | rw [if_neg (by omega)])
       · go_light
         repeat (first | with_reducible exact Below.refl _ _ | ((with_reducible refine Below.setCell ?_ ?_ _); rotate_left; focus (first | (simp; done) | (simp; omega) | omega)) | ((with_reducible refine Below.alloc ?_ ?_ _); rotate_left; focus (first | (simp; done) | (simp; omega) | omega)) | (with_reducible refine Below.drew ?_)))
set_option maxRecDepth 100000 in
theorem rpack_yes (c k s h : Int) (m : Bool) (h0 : 0 ≤ c) (hh : 0 ≤ h) (hz : checkZ c k s h = 0) (w : World) :
    Calls Tryd.prog 42 #[.agg #[.int .u64 c, .int .i64 k, .int .i64 s, .int .u32 h, .bool m]] w fun e w' => e = .returned (.tuple #[.agg #[.int .u64 c, .int .u64 (packZ k s h m)], .int .i64 0]) ∧ Below w.heap.size w w' := by
  obtain ⟨a0, a1, s0, s1, hh1, k0, k1⟩ := checkZ_ok.1 hz
  clear hz
  go_enter Tryd.func42, Tryd.ntmps42
  cases m
  all_goals
    go_wp2_with (go_at_call 60; refine (risis_any c h0 _).mono ?_; rintro e w' ⟨rfl, rfl⟩)
    try any_goals (exfalso; go_light; omega)
    refine bodyPost_ret (v := .tuple #[.agg #[.int .u64 c, .int .u64 (packZ k s h _)], .int .i64 0]) ?_ rfl ⟨rfl, ?_⟩
    · simp [results, Tryd.results42, go_sem]; unfold packZ; simp
    · go_light
      repeat (first | with_reducible exact Below.refl _ _ | ((with_reducible refine Below.setCell ?_ ?_ _); rotate_left; focus (first | (simp; done) | (simp; omega) | omega)) | ((with_reducible refine Below.alloc ?_ ?_ _); rotate_left; focus (first | (simp; done) | (simp; omega) | omega)) | (with_reducible refine Below.drew ?_))
end Go.Proofs.YtaillinlbbhdkaaDoor
