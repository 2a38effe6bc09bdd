/- Layer 3 (head), further: what is no head; the references' heads; places and pointers; the fixed fact. Layer 3 (head): the references' heads, heads of the law, cells. Layer 3 (head): how many words follow a head, the program's and the reference's. -/
import Derived.Test.YtibopjjicfiimaaGreatDoorHead
import Derived.Test.YtibopjjicfiimaaGreatDoorLater
namespace Go.Proofs.YtibopjjicfiimaaGreatDoor
open Go.RowKit
set_option maxRecDepth 100000 in
theorem unpack_no (a b : Int) (a0 : 0 ≤ a) (a1 : a < 18446744073709551616) (b0 : 0 ≤ b) (b1 : b < 18446744073709551616) (hok : ¬ UnOK a b) (w : World) :
    Calls Tryz.prog 89 #[.agg #[.int .u64 a, .int .u64 b]] w fun e w' => e = .returned (.tuple #[.agg #[.int .u64 0, .int .i64 0, .int .i64 0, .int .u32 0, .bool false], .int .i64 3]) ∧ Below w.heap.size w w' := by
  have e1 : bits BinOp.and IntKind.u64 (b / 4294967296) 15 = hK b := and15 _ (by omega) (by omega)
  have e2 : bits BinOp.and IntKind.u64 b 4294967295 = hS b := and32 _ (by omega) (by omega)
  have e3 : b / 1099511627776 = hH b := rfl
  have e4 : (bits BinOp.and IntKind.u64 (b / 68719476736) 1 == 1) = hM b := by rw [and1 _ (by omega) (by omega)]; rfl
  have k0 : 0 ≤ hK b := by unfold hK; omega
  have k1 : hK b < 16 := by unfold hK; omega
  have s0 : 0 ≤ hS b := by unfold hS; omega
  have s1 : hS b < 4294967296 := by unfold hS; omega
  have r0 : 0 ≤ hH b := by unfold hH; omega
  have r1 : hH b < 16777216 := by unfold hH; omega
  have hq := eq_words
  have hg0 := guard_words
  by_cases hz : checkZ a (hK b) (hS b) (hH b) = 0
  · have hp : (packZ (hK b) (hS b) (hH b) (hM b) == b) = false := by
      rw [beq_eq_false_iff_ne]
      intro h
      obtain ⟨h1, h2, h3, h4, h5, h6, h7⟩ := checkZ_ok.1 hz
      exact hok ⟨h1, h2, h4, h7, packZ_back.1 h⟩
    have PK := Lib.hid (pack_yes a (hK b) (hS b) (hH b) (hM b) a0 a1 r0 hz)
    generalize packZ (hK b) (hS b) (hH b) (hM b) = z at *
    clear hok hz
    go_enter Tryz.func89, Tryz.ntmps89
    go_wp2_with (go_at_call 71; refine (PK.out _).mono ?_; rintro e w1 ⟨rfl, hg⟩; obtain ⟨hc, hf⟩ := bcell hg; have hs := hg.size; (try simp at hs); have hs0 : w.heap.size < w1.heap.size := (by omega); have hs1 : w.heap.size + 1 < w1.heap.size := (by omega); have hs2 : w.heap.size + 2 < w1.heap.size := (by omega); have HG := Lib.hid hg; clear hg)
    refine bodyPost_ret (v := .tuple #[.agg #[.int .u64 0, .int .i64 0, .int .i64 0, .int .u32 0, .bool false], .int .i64 3]) (by simp [results, Tryz.results89, go_sem, hc, hs1]) rfl ⟨rfl, ?_⟩
    go_light
    have hg := HG.out
    repeat (first | with_reducible exact Below.refl _ _ | ((with_reducible refine Below.setCell ?_ ?_ _); rotate_left; focus (first | (simp; done) | (simp; omega) | omega)) | ((with_reducible refine Below.alloc ?_ ?_ _); rotate_left; focus (first | (simp; done) | (simp; omega) | omega)) | (with_reducible refine Below.drew ?_) | ((with_reducible refine Below.trans ?_ (Below.mono hg ?_)); rotate_left; focus (first | (simp; done) | (simp; omega) | omega)))
  · have hb := checkZ_bd a (hK b) (hS b) (hH b)
    have PK := Lib.hid (pack_no a (hK b) (hS b) (hH b) (hM b) a0 a1 hz)
    generalize checkZ a (hK b) (hS b) (hH b) = z at *
    obtain ⟨hb0, hb1⟩ := hb
    clear hok
    have hz' : 1 ≤ z := by omega
    clear hz
    go_enter Tryz.func89, Tryz.ntmps89
    go_wp2_with (go_at_call 71; refine (PK.out _).mono ?_; rintro e w1 ⟨rfl, hg⟩; obtain ⟨hc, hf⟩ := bcell hg; have hs := hg.size; (try simp at hs); have hs0 : w.heap.size < w1.heap.size := (by omega); have hs1 : w.heap.size + 1 < w1.heap.size := (by omega); have hs2 : w.heap.size + 2 < w1.heap.size := (by omega); have HG := Lib.hid hg; clear hg)
    refine bodyPost_ret (v := .tuple #[.agg #[.int .u64 0, .int .i64 0, .int .i64 0, .int .u32 0, .bool false], .int .i64 3]) (by simp [results, Tryz.results89, go_sem, hc, hs1]) rfl ⟨rfl, ?_⟩
    go_light
    have hg := HG.out
    repeat (first | with_reducible exact Below.refl _ _ | ((with_reducible refine Below.setCell ?_ ?_ _); rotate_left; focus (first | (simp; done) | (simp; omega) | omega)) | ((with_reducible refine Below.alloc ?_ ?_ _); rotate_left; focus (first | (simp; done) | (simp; omega) | omega)) | (with_reducible refine Below.drew ?_) | ((with_reducible refine Below.trans ?_ (Below.mono hg ?_)); rotate_left; focus (first | (simp; done) | (simp; omega) | omega)))

theorem ptr_yes (n : Int) (h0 : 1 ≤ n) (h1 : n < 16777216) (w : World) : Calls Tryz.prog 33 #[.int .i64 n] w fun e w' => e = .returned (.tuple #[.int .u64 (n * 2), .int .i64 0]) ∧ w = w' := by
  go_enter Tryz.func33, Tryz.ntmps33
  go_wp2
  go_ret2
  exact ⟨rfl, rfl⟩
theorem ptr_no (n : Int) (h : n < 1 ∨ 16777216 ≤ n) (w : World) : Calls Tryz.prog 33 #[.int .i64 n] w fun e w' => e = .returned (.tuple #[.int .u64 0, .int .i64 1]) ∧ w = w' := by
  rcases h with h | h
  all_goals
    go_enter Tryz.func33, Tryz.ntmps33
    go_wp2
    go_ret2
    exact ⟨rfl, rfl⟩
theorem at_no (a : Int) (h0 : 0 ≤ a) (h1 : a < 18446744073709551616) (h : a % 2 = 1 ∨ a = 0 ∨ 33554432 ≤ a) (w : World) : Calls Tryz.prog 74 #[.int .u64 a] w fun e w' => e = .returned (.tuple #[.int .i64 0, .int .i64 13]) ∧ w = w' := by
  by_cases ha : a % 2 = 1
  · go_enter Tryz.func74, Tryz.ntmps74
    go_wp2_with (go_at_call 75; refine (is_any a h0 h1 _).mono ?_; rintro e w' ⟨rfl, rfl⟩)
    go_ret2
    exact ⟨rfl, rfl⟩
  by_cases hb : a = 0
  · subst hb
    go_enter Tryz.func74, Tryz.ntmps74
    go_wp2_with (go_at_call 75; refine (is_any 0 h0 h1 _).mono ?_; rintro e w' ⟨rfl, rfl⟩)
    go_ret2
    exact ⟨rfl, rfl⟩
  have hc : 33554432 ≤ a := by omega
  clear h
  go_enter Tryz.func74, Tryz.ntmps74
  go_wp2_with (go_at_call 75; refine (is_any a h0 h1 _).mono ?_; rintro e w' ⟨rfl, rfl⟩)
  go_ret2
  exact ⟨rfl, rfl⟩
theorem at_yes (a : Int) (h0 : 1 ≤ a) (h1 : a < 33554432) (h : a % 2 = 0) (w : World) : Calls Tryz.prog 74 #[.int .u64 a] w fun e w' => e = .returned (.tuple #[.int .i64 (a / 2), .int .i64 0]) ∧ w = w' := by
  have h' : ¬ a % 2 = 1 := by omega
  clear h
  go_enter Tryz.func74, Tryz.ntmps74
  go_wp2_with (go_at_call 75; refine (is_any a (by omega) (by omega) _).mono ?_; rintro e w' ⟨rfl, rfl⟩)
  go_ret2
  exact ⟨rfl, rfl⟩
end Go.Proofs.YtibopjjicfiimaaGreatDoor
namespace Go.Proofs.YtibopjjicfiimaaGreatDoor
open Go.RowKit
set_option maxRecDepth 100000 in
theorem rpack_no (c k s h : Int) (m : Bool) (h0 : 0 ≤ c) (hz : checkZ c k s h ≠ 0) (w : World) :
    Calls Tryz.prog 50 #[.agg #[.int .u64 c, .int .i64 k, .int .i64 s, .int .u32 h, .bool m]] w fun e w' => e = .returned (.tuple #[.agg #[.int .u64 0, .int .u64 0], .int .i64 (checkZ c k s h)]) ∧ Below w.heap.size w w' := by
  have HZ := Lib.hid hz; clear hz
  go_enter Tryz.func50, Tryz.ntmps50
  go_wp2_with (go_at_call 88; refine (risis_any c h0 _).mono ?_; rintro e w' ⟨rfl, rfl⟩)
  all_goals first
    | (exfalso; refine HZ.out (checkZ_ok.2 ?_); go_light; omega)
    | (refine bodyPost_ret (v := .tuple #[.agg #[.int .u64 0, .int .u64 0], .int .i64 (checkZ c k s h)]) ?_ rfl ⟨rfl, ?_⟩
       · simp [results, Tryz.results50, go_sem]; go_light; unfold checkZ; repeat (first | rw [if_pos (by omega)] | rw [if_neg (by omega)])
       · go_light
         repeat (first | with_reducible exact Below.refl _ _ | ((with_reducible refine Below.setCell ?_ ?_ _); rotate_left; focus (first | (simp; done) | (simp; omega) | omega)) | ((with_reducible refine Below.alloc ?_ ?_ _); rotate_left; focus (first | (simp; done) | (simp; omega) | omega)) | (with_reducible refine Below.drew ?_)))
set_option maxRecDepth 100000 in
theorem rpack_yes (c k s h : Int) (m : Bool) (h0 : 0 ≤ c) (hh : 0 ≤ h) (hz : checkZ c k s h = 0) (w : World) :
    Calls Tryz.prog 50 #[.agg #[.int .u64 c, .int .i64 k, .int .i64 s, .int .u32 h, .bool m]] w fun e w' => e = .returned (.tuple #[.agg #[.int .u64 c, .int .u64 (packZ k s h m)], .int .i64 0]) ∧ Below w.heap.size w w' := by
  obtain ⟨a0, a1, s0, s1, hh1, k0, k1⟩ := checkZ_ok.1 hz
  clear hz
  go_enter Tryz.func50, Tryz.ntmps50
  cases m
  all_goals
    go_wp2_with (go_at_call 88; refine (risis_any c h0 _).mono ?_; rintro e w' ⟨rfl, rfl⟩)
    try any_goals (exfalso; go_light; omega)
    refine bodyPost_ret (v := .tuple #[.agg #[.int .u64 c, .int .u64 (packZ k s h _)], .int .i64 0]) ?_ rfl ⟨rfl, ?_⟩
    · simp [results, Tryz.results50, go_sem]; unfold packZ; simp
    · go_light
      repeat (first | with_reducible exact Below.refl _ _ | ((with_reducible refine Below.setCell ?_ ?_ _); rotate_left; focus (first | (simp; done) | (simp; omega) | omega)) | ((with_reducible refine Below.alloc ?_ ?_ _); rotate_left; focus (first | (simp; done) | (simp; omega) | omega)) | (with_reducible refine Below.drew ?_))
end Go.Proofs.YtibopjjicfiimaaGreatDoor
namespace Go.Proofs.YtibopjjicfiimaaGreatDoor
open Go.RowKit
/-- how many words follow -/
def cellsZ (c k s h : Int) : Int := if checkZ c k s h = 0 then (if k = 2 then (s + 7) / 8 else s) else 0
theorem cellsZ_bd (c k s h : Int) : 0 ≤ cellsZ c k s h ∧ cellsZ c k s h ≤ 1048576 := by
  unfold cellsZ
  split
  · rename_i hz
    obtain ⟨-, -, s0, s1, -, -, -⟩ := checkZ_ok.1 hz
    split <;> omega
  · omega
set_option maxRecDepth 100000 in
theorem cells_any (c k s h : Int) (m : Bool) (h0 : 0 ≤ c) (h1 : c < 18446744073709551616) (w : World) :
    Calls Tryz.prog 69 #[.agg #[.int .u64 c, .int .i64 k, .int .i64 s, .int .u32 h, .bool m]] w fun e w' => e = .returned (.int .i64 (cellsZ c k s h)) ∧ Below w.heap.size w w' := by
  have ck := check_any c k s h m h0 h1
  by_cases hz : checkZ c k s h = 0
  · rw [hz] at ck
    have CK := Lib.hid ck; clear ck
    obtain ⟨-, -, s0, s1, -, k0, k1⟩ := checkZ_ok.1 hz
    by_cases h2 : k = 2
    · have E := Lib.hid (show cellsZ c k s h = (s + 7) / 8 by unfold cellsZ; rw [if_pos hz, if_pos h2])
      rw [E.out]; subst h2; clear hz
      go_enter Tryz.func69, Tryz.ntmps69
      go_wp2_with (go_at_call 96; refine (CK.out _).mono ?_; rintro e w1 ⟨rfl, hg⟩; obtain ⟨hc, hf⟩ := bcell hg; have hs := hg.size; (try simp at hs); have hs0 : w.heap.size < w1.heap.size := (by omega); have HG := Lib.hid hg; clear hg)
      go_ret
      have hg := HG.out
      refine ⟨ret_int (by omega), ?_⟩
      go_light
      repeat (first | with_reducible exact Below.refl _ _ | ((with_reducible refine Below.setCell ?_ ?_ _); rotate_left; focus (first | (simp; done) | (simp; omega) | omega)) | ((with_reducible refine Below.alloc ?_ ?_ _); rotate_left; focus (first | (simp; done) | (simp; omega) | omega)) | (with_reducible refine Below.drew ?_) | ((with_reducible refine Below.trans ?_ (Below.mono hg ?_)); rotate_left; focus (first | (simp; done) | (simp; omega) | omega)))
    · have E := Lib.hid (show cellsZ c k s h = s by unfold cellsZ; rw [if_pos hz, if_neg h2])
      rw [E.out]
      have h2' : k < 2 := by omega
      clear h2 hz
      go_enter Tryz.func69, Tryz.ntmps69
      go_wp2_with (go_at_call 96; refine (CK.out _).mono ?_; rintro e w1 ⟨rfl, hg⟩; obtain ⟨hc, hf⟩ := bcell hg; have hs := hg.size; (try simp at hs); have hs0 : w.heap.size < w1.heap.size := (by omega); have HG := Lib.hid hg; clear hg)
      go_ret
      have hg := HG.out
      refine ⟨rfl, ?_⟩
      go_light
      repeat (first | with_reducible exact Below.refl _ _ | ((with_reducible refine Below.setCell ?_ ?_ _); rotate_left; focus (first | (simp; done) | (simp; omega) | omega)) | ((with_reducible refine Below.alloc ?_ ?_ _); rotate_left; focus (first | (simp; done) | (simp; omega) | omega)) | (with_reducible refine Below.drew ?_) | ((with_reducible refine Below.trans ?_ (Below.mono hg ?_)); rotate_left; focus (first | (simp; done) | (simp; omega) | omega)))
  · have E := Lib.hid (show cellsZ c k s h = 0 by unfold cellsZ; rw [if_neg hz])
    rw [E.out]
    have hb := checkZ_bd c k s h
    generalize checkZ c k s h = z at *
    obtain ⟨hb0, hb1⟩ := hb
    have hz1 : 1 ≤ z := by omega
    have CK := Lib.hid ck; clear ck hz hb0
    go_enter Tryz.func69, Tryz.ntmps69
    go_wp2_with (go_at_call 96; refine (CK.out _).mono ?_; rintro e w1 ⟨rfl, hg⟩; obtain ⟨hc, hf⟩ := bcell hg; have hs := hg.size; (try simp at hs); have hs0 : w.heap.size < w1.heap.size := (by omega); have HG := Lib.hid hg; clear hg)
    go_ret
    have hg := HG.out
    refine ⟨rfl, ?_⟩
    go_light
    repeat (first | with_reducible exact Below.refl _ _ | ((with_reducible refine Below.setCell ?_ ?_ _); rotate_left; focus (first | (simp; done) | (simp; omega) | omega)) | ((with_reducible refine Below.alloc ?_ ?_ _); rotate_left; focus (first | (simp; done) | (simp; omega) | omega)) | (with_reducible refine Below.drew ?_) | ((with_reducible refine Below.trans ?_ (Below.mono hg ?_)); rotate_left; focus (first | (simp; done) | (simp; omega) | omega)))
set_option maxRecDepth 100000 in
theorem rcells_any (c k s h : Int) (m : Bool) (h0 : 0 ≤ c) (hh : 0 ≤ h) (w : World) :
    Calls Tryz.prog 87 #[.agg #[.int .u64 c, .int .i64 k, .int .i64 s, .int .u32 h, .bool m]] w fun e w' => e = .returned (.int .i64 (cellsZ c k s h)) ∧ Below w.heap.size w w' := by
  by_cases hz : checkZ c k s h = 0
  · have CK := Lib.hid (rpack_yes c k s h m h0 hh hz)
    obtain ⟨-, -, s0, s1, -, k0, k1⟩ := checkZ_ok.1 hz
    generalize packZ k s h m = z at *
    by_cases h2 : k = 2
    · have E := Lib.hid (show cellsZ c k s h = (s + 7) / 8 by unfold cellsZ; rw [if_pos hz, if_pos h2])
      rw [E.out]; subst h2; clear hz
      go_enter Tryz.func87, Tryz.ntmps87
      go_wp2_with (go_at_call 50; refine (CK.out _).mono ?_; rintro e w1 ⟨rfl, hg⟩; obtain ⟨hc, hf⟩ := bcell hg; have hs := hg.size; (try simp at hs); have hs0 : w.heap.size < w1.heap.size := (by omega); have HG := Lib.hid hg; clear hg)
      go_loop [5] (fun n => ∃ j : Nat, (j : Int) ≤ (s + 7) / 8 ∧ n = .int .i64 j) (fun n => (s.toNat - (intOf n).toNat))
      case atStart => exact ⟨0, by omega, rfl⟩
      case round =>
        obtain ⟨j, hj, rfl⟩ := hrel
        by_cases hlt : 8 * (j : Int) < s
        · go_wp2
          go_round
          case rel => exact ⟨j + 1, by omega, by go_num⟩
          case measure => simp [intOf]; omega
        · go_wp2
          go_ret
          have hg := HG.out
          refine ⟨ret_int (by omega), ?_⟩
          go_light
          repeat (first | with_reducible exact Below.refl _ _ | ((with_reducible refine Below.setCell ?_ ?_ _); rotate_left; focus (first | (simp; done) | (simp; omega) | omega)) | ((with_reducible refine Below.alloc ?_ ?_ _); rotate_left; focus (first | (simp; done) | (simp; omega) | omega)) | (with_reducible refine Below.drew ?_) | ((with_reducible refine Below.trans ?_ (Below.mono hg ?_)); rotate_left; focus (first | (simp; done) | (simp; omega) | omega)))
    · have E := Lib.hid (show cellsZ c k s h = s by unfold cellsZ; rw [if_pos hz, if_neg h2])
      rw [E.out]
      have h2' : k < 2 := by omega
      clear h2 hz
      go_enter Tryz.func87, Tryz.ntmps87
      go_wp2_with (go_at_call 50; refine (CK.out _).mono ?_; rintro e w1 ⟨rfl, hg⟩; obtain ⟨hc, hf⟩ := bcell hg; have hs := hg.size; (try simp at hs); have hs0 : w.heap.size < w1.heap.size := (by omega); have HG := Lib.hid hg; clear hg)
      go_ret
      have hg := HG.out
      refine ⟨rfl, ?_⟩
      go_light
      repeat (first | with_reducible exact Below.refl _ _ | ((with_reducible refine Below.setCell ?_ ?_ _); rotate_left; focus (first | (simp; done) | (simp; omega) | omega)) | ((with_reducible refine Below.alloc ?_ ?_ _); rotate_left; focus (first | (simp; done) | (simp; omega) | omega)) | (with_reducible refine Below.drew ?_) | ((with_reducible refine Below.trans ?_ (Below.mono hg ?_)); rotate_left; focus (first | (simp; done) | (simp; omega) | omega)))
  · have E := Lib.hid (show cellsZ c k s h = 0 by unfold cellsZ; rw [if_neg hz])
    rw [E.out]
    have ck := rpack_no c k s h m h0 hz
    have hb := checkZ_bd c k s h
    generalize checkZ c k s h = z at *
    obtain ⟨hb0, hb1⟩ := hb
    have hz1 : 1 ≤ z := by omega
    have CK := Lib.hid ck; clear ck hz hb0
    go_enter Tryz.func87, Tryz.ntmps87
    go_wp2_with (go_at_call 50; refine (CK.out _).mono ?_; rintro e w1 ⟨rfl, hg⟩; obtain ⟨hc, hf⟩ := bcell hg; have hs := hg.size; (try simp at hs); have hs0 : w.heap.size < w1.heap.size := (by omega); have HG := Lib.hid hg; clear hg)
    go_ret
    have hg := HG.out
    refine ⟨rfl, ?_⟩
    go_light
    repeat (first | with_reducible exact Below.refl _ _ | ((with_reducible refine Below.setCell ?_ ?_ _); rotate_left; focus (first | (simp; done) | (simp; omega) | omega)) | ((with_reducible refine Below.alloc ?_ ?_ _); rotate_left; focus (first | (simp; done) | (simp; omega) | omega)) | (with_reducible refine Below.drew ?_) | ((with_reducible refine Below.trans ?_ (Below.mono hg ?_)); rotate_left; focus (first | (simp; done) | (simp; omega) | omega)))
end Go.Proofs.YtibopjjicfiimaaGreatDoor
