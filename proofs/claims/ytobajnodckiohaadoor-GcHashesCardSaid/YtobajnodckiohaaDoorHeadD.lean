/- Layer 3 (head): the references' heads, heads of the law, cells. Layer 3 (head): how many words follow a head, the program's and the reference's. -/
import Derived.Test.YtobajnodckiohaaDoorHeadB
namespace Go.Proofs.YtobajnodckiohaaDoor
open Go.RowKit
set_option maxRecDepth 100000 in
theorem rpack_no (c k s h : Int) (m : Bool) (h0 : 0 ≤ c) (hz : checkZ c k s h ≠ 0) (w : World) :
    Calls Tryd.prog 43 #[.agg #[.int .u64 c, .int .i64 k, .int .i64 s, .int .u32 h, .bool m]] w fun e w' => e = .returned (.tuple #[.agg #[.int .u64 0, .int .u64 0], .int .i64 (checkZ c k s h)]) ∧ Below w.heap.size w w' := by
  have HZ := Lib.hid hz; clear hz
  go_enter Tryd.func43, Tryd.ntmps43
  go_wp2_with (go_at_call 60; refine (risis_any c h0 _).mono ?_; rintro e w' ⟨rfl, rfl⟩)
  all_goals first
    | (exfalso; refine HZ.out (checkZ_ok.2 ?_); go_light; omega)
    | (refine bodyPost_ret (v := .tuple #[.agg #[.int .u64 0, .int .u64 0], .int .i64 (checkZ c k s h)]) ?_ rfl ⟨rfl, ?_⟩
       · simp [results, Tryd.results43, go_sem]; go_light; unfold checkZ; repeat (first | rw [if_pos (by omega)] | rw [if_neg (by omega)])
       · go_light
         repeat (first | with_reducible exact Below.refl _ _ | ((with_reducible refine Below.setCell ?_ ?_ _); rotate_left; focus (first | (simp; done) | (simp; omega) | omega)) | ((with_reducible refine Below.alloc ?_ ?_ _); rotate_left; focus (first | (simp; done) | (simp; omega) | omega)) | (with_reducible refine Below.drew ?_)))
set_option maxRecDepth 100000 in
theorem rpack_yes (c k s h : Int) (m : Bool) (h0 : 0 ≤ c) (hh : 0 ≤ h) (hz : checkZ c k s h = 0) (w : World) :
    Calls Tryd.prog 43 #[.agg #[.int .u64 c, .int .i64 k, .int .i64 s, .int .u32 h, .bool m]] w fun e w' => e = .returned (.tuple #[.agg #[.int .u64 c, .int .u64 (packZ k s h m)], .int .i64 0]) ∧ Below w.heap.size w w' := by
  obtain ⟨a0, a1, s0, s1, hh1, k0, k1⟩ := checkZ_ok.1 hz
  clear hz
  go_enter Tryd.func43, Tryd.ntmps43
  cases m
  all_goals
    go_wp2_with (go_at_call 60; refine (risis_any c h0 _).mono ?_; rintro e w' ⟨rfl, rfl⟩)
    try any_goals (exfalso; go_light; omega)
    refine bodyPost_ret (v := .tuple #[.agg #[.int .u64 c, .int .u64 (packZ k s h _)], .int .i64 0]) ?_ rfl ⟨rfl, ?_⟩
    · simp [results, Tryd.results43, go_sem]; unfold packZ; simp
    · go_light
      repeat (first | with_reducible exact Below.refl _ _ | ((with_reducible refine Below.setCell ?_ ?_ _); rotate_left; focus (first | (simp; done) | (simp; omega) | omega)) | ((with_reducible refine Below.alloc ?_ ?_ _); rotate_left; focus (first | (simp; done) | (simp; omega) | omega)) | (with_reducible refine Below.drew ?_))
end Go.Proofs.YtobajnodckiohaaDoor
namespace Go.Proofs.YtobajnodckiohaaDoor
open Go.RowKit
/-- how many words follow -/
def cellsZ (c k s h : Int) : Int := if checkZ c k s h = 0 then (if k = 2 then (s + 7) / 8 else s) else 0
theorem cellsZ_bd (c k s h : Int) : 0 ≤ cellsZ c k s h ∧ cellsZ c k s h ≤ 1048576 := by
  unfold cellsZ
  split
  · rename_i hz
    obtain ⟨-, -, s0, s1, -, -, -⟩ := checkZ_ok.1 hz
    split <;> omega
  · omega
set_option maxRecDepth 100000 in
theorem cells_any (c k s h : Int) (m : Bool) (h0 : 0 ≤ c) (h1 : c < 18446744073709551616) (w : World) :
    Calls Tryd.prog 38 #[.agg #[.int .u64 c, .int .i64 k, .int .i64 s, .int .u32 h, .bool m]] w fun e w' => e = .returned (.int .i64 (cellsZ c k s h)) ∧ Below w.heap.size w w' := by
  have ck := check_any c k s h m h0 h1
  by_cases hz : checkZ c k s h = 0
  · rw [hz] at ck
    have CK := Lib.hid ck; clear ck
    obtain ⟨-, -, s0, s1, -, k0, k1⟩ := checkZ_ok.1 hz
    by_cases h2 : k = 2
    · have E := Lib.hid (show cellsZ c k s h = (s + 7) / 8 by unfold cellsZ; rw [if_pos hz, if_pos h2])
      rw [E.out]; subst h2; clear hz
      go_enter Tryd.func38, Tryd.ntmps38
      go_wp2_with (go_at_call 58; refine (CK.out _).mono ?_; rintro e w1 ⟨rfl, hg⟩; obtain ⟨hc, hf⟩ := bcell hg; have hs := hg.size; (try simp at hs); have hs0 : w.heap.size < w1.heap.size := (by omega); have HG := Lib.hid hg; clear hg)
      go_ret
      have hg := HG.out
      refine ⟨ret_int (by omega), ?_⟩
      go_light
      repeat (first | with_reducible exact Below.refl _ _ | ((with_reducible refine Below.setCell ?_ ?_ _); rotate_left; focus (first | (simp; done) | (simp; omega) | omega)) | ((with_reducible refine Below.alloc ?_ ?_ _); rotate_left; focus (first | (simp; done) | (simp; omega) | omega)) | (with_reducible refine Below.drew ?_) | ((with_reducible refine Below.trans ?_ (Below.mono hg ?_)); rotate_left; focus (first | (simp; done) | (simp; omega) | omega)))
    · have E := Lib.hid (show cellsZ c k s h = s by unfold cellsZ; rw [if_pos hz, if_neg h2])
      rw [E.out]
      have h2' : k < 2 := by omega
      clear h2 hz
      go_enter Tryd.func38, Tryd.ntmps38
      go_wp2_with (go_at_call 58; refine (CK.out _).mono ?_; rintro e w1 ⟨rfl, hg⟩; obtain ⟨hc, hf⟩ := bcell hg; have hs := hg.size; (try simp at hs); have hs0 : w.heap.size < w1.heap.size := (by omega); have HG := Lib.hid hg; clear hg)
      go_ret
      have hg := HG.out
      refine ⟨rfl, ?_⟩
      go_light
      repeat (first | with_reducible exact Below.refl _ _ | ((with_reducible refine Below.setCell ?_ ?_ _); rotate_left; focus (first | (simp; done) | (simp; omega) | omega)) | ((with_reducible refine Below.alloc ?_ ?_ _); rotate_left; focus (first | (simp; done) | (simp; omega) | omega)) | (with_reducible refine Below.drew ?_) | ((with_reducible refine Below.trans ?_ (Below.mono hg ?_)); rotate_left; focus (first | (simp; done) | (simp; omega) | omega)))
  · have E := Lib.hid (show cellsZ c k s h = 0 by unfold cellsZ; rw [if_neg hz])
    rw [E.out]
    have hb := checkZ_bd c k s h
    generalize checkZ c k s h = z at *
    obtain ⟨hb0, hb1⟩ := hb
    have hz1 : 1 ≤ z := by omega
    have CK := Lib.hid ck; clear ck hz hb0
    go_enter Tryd.func38, Tryd.ntmps38
    go_wp2_with (go_at_call 58; refine (CK.out _).mono ?_; rintro e w1 ⟨rfl, hg⟩; obtain ⟨hc, hf⟩ := bcell hg; have hs := hg.size; (try simp at hs); have hs0 : w.heap.size < w1.heap.size := (by omega); have HG := Lib.hid hg; clear hg)
    go_ret
    have hg := HG.out
    refine ⟨rfl, ?_⟩
    go_light
    repeat (first | with_reducible exact Below.refl _ _ | ((with_reducible refine Below.setCell ?_ ?_ _); rotate_left; focus (first | (simp; done) | (simp; omega) | omega)) | ((with_reducible refine Below.alloc ?_ ?_ _); rotate_left; focus (first | (simp; done) | (simp; omega) | omega)) | (with_reducible refine Below.drew ?_) | ((with_reducible refine Below.trans ?_ (Below.mono hg ?_)); rotate_left; focus (first | (simp; done) | (simp; omega) | omega)))
set_option maxRecDepth 100000 in
theorem rcells_any (c k s h : Int) (m : Bool) (h0 : 0 ≤ c) (hh : 0 ≤ h) (w : World) :
    Calls Tryd.prog 42 #[.agg #[.int .u64 c, .int .i64 k, .int .i64 s, .int .u32 h, .bool m]] w fun e w' => e = .returned (.int .i64 (cellsZ c k s h)) ∧ Below w.heap.size w w' := by
  by_cases hz : checkZ c k s h = 0
  · have CK := Lib.hid (rpack_yes c k s h m h0 hh hz)
    obtain ⟨-, -, s0, s1, -, k0, k1⟩ := checkZ_ok.1 hz
    generalize packZ k s h m = z at *
    by_cases h2 : k = 2
    · have E := Lib.hid (show cellsZ c k s h = (s + 7) / 8 by unfold cellsZ; rw [if_pos hz, if_pos h2])
      rw [E.out]; subst h2; clear hz
      go_enter Tryd.func42, Tryd.ntmps42
      go_wp2_with (go_at_call 43; refine (CK.out _).mono ?_; rintro e w1 ⟨rfl, hg⟩; obtain ⟨hc, hf⟩ := bcell hg; have hs := hg.size; (try simp at hs); have hs0 : w.heap.size < w1.heap.size := (by omega); have HG := Lib.hid hg; clear hg)
      go_loop [5] (fun n => ∃ j : Nat, (j : Int) ≤ (s + 7) / 8 ∧ n = .int .i64 j) (fun n => (s.toNat - (intOf n).toNat))
      case atStart => exact ⟨0, by omega, rfl⟩
      case round =>
        obtain ⟨j, hj, rfl⟩ := hrel
        by_cases hlt : 8 * (j : Int) < s
        · go_wp2
          go_round
          case rel => exact ⟨j + 1, by omega, by go_num⟩
          case measure => simp [intOf]; omega
        · go_wp2
          go_ret
          have hg := HG.out
          refine ⟨ret_int (by omega), ?_⟩
          go_light
          repeat (first | with_reducible exact Below.refl _ _ | ((with_reducible refine Below.setCell ?_ ?_ _); rotate_left; focus (first | (simp; done) | (simp; omega) | omega)) | ((with_reducible refine Below.alloc ?_ ?_ _); rotate_left; focus (first | (simp; done) | (simp; omega) | omega)) | (with_reducible refine Below.drew ?_) | ((with_reducible refine Below.trans ?_ (Below.mono hg ?_)); rotate_left; focus (first | (simp; done) | (simp; omega) | omega)))
    · have E := Lib.hid (show cellsZ c k s h = s by unfold cellsZ; rw [if_pos hz, if_neg h2])
      rw [E.out]
      have h2' : k < 2 := by omega
      clear h2 hz
      go_enter Tryd.func42, Tryd.ntmps42
      go_wp2_with (go_at_call 43; refine (CK.out _).mono ?_; rintro e w1 ⟨rfl, hg⟩; obtain ⟨hc, hf⟩ := bcell hg; have hs := hg.size; (try simp at hs); have hs0 : w.heap.size < w1.heap.size := (by omega); have HG := Lib.hid hg; clear hg)
      go_ret
      have hg := HG.out
      refine ⟨rfl, ?_⟩
      go_light
      repeat (first | with_reducible exact Below.refl _ _ | ((with_reducible refine Below.setCell ?_ ?_ _); rotate_left; focus (first | (simp; done) | (simp; omega) | omega)) | ((with_reducible refine Below.alloc ?_ ?_ _); rotate_left; focus (first | (simp; done) | (simp; omega) | omega)) | (with_reducible refine Below.drew ?_) | ((with_reducible refine Below.trans ?_ (Below.mono hg ?_)); rotate_left; focus (first | (simp; done) | (simp; omega) | omega)))
  · have E := Lib.hid (show cellsZ c k s h = 0 by unfold cellsZ; rw [if_neg hz])
    rw [E.out]
    have ck := rpack_no c k s h m h0 hz
    have hb := checkZ_bd c k s h
    generalize checkZ c k s h = z at *
    obtain ⟨hb0, hb1⟩ := hb
    have hz1 : 1 ≤ z := by omega
    have CK := Lib.hid ck; clear ck hz hb0
    go_enter Tryd.func42, Tryd.ntmps42
    go_wp2_with (go_at_call 43; refine (CK.out _).mono ?_; rintro e w1 ⟨rfl, hg⟩; obtain ⟨hc, hf⟩ := bcell hg; have hs := hg.size; (try simp at hs); have hs0 : w.heap.size < w1.heap.size := (by omega); have HG := Lib.hid hg; clear hg)
    go_ret
    have hg := HG.out
    refine ⟨rfl, ?_⟩
    go_light
    repeat (first | with_reducible exact Below.refl _ _ | ((with_reducible refine Below.setCell ?_ ?_ _); rotate_left; focus (first | (simp; done) | (simp; omega) | omega)) | ((with_reducible refine Below.alloc ?_ ?_ _); rotate_left; focus (first | (simp; done) | (simp; omega) | omega)) | (with_reducible refine Below.drew ?_) | ((with_reducible refine Below.trans ?_ (Below.mono hg ?_)); rotate_left; focus (first | (simp; done) | (simp; omega) | omega)))
end Go.Proofs.YtobajnodckiohaaDoor
