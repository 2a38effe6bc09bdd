/- Layer 3 (head), further: what is no head; the references' heads; places and pointers; the fixed fact. -/
import Derived.Test.YtobajnodckiohaaDoorHead
import Derived.Test.YtobajnodckiohaaDoorLater
namespace Go.Proofs.YtobajnodckiohaaDoor
open Go.RowKit
set_option maxRecDepth 100000 in
theorem unpack_no (a b : Int) (a0 : 0 ≤ a) (a1 : a < 18446744073709551616) (b0 : 0 ≤ b) (b1 : b < 18446744073709551616) (hok : ¬ UnOK a b) (w : World) :
    Calls Tryd.prog 52 #[.agg #[.int .u64 a, .int .u64 b]] w fun e w' => e = .returned (.tuple #[.agg #[.int .u64 0, .int .i64 0, .int .i64 0, .int .u32 0, .bool false], .int .i64 3]) ∧ Below w.heap.size w w' := by
  have e1 : bits BinOp.and IntKind.u64 (b / 4294967296) 15 = hK b := and15 _ (by omega) (by omega)
  have e2 : bits BinOp.and IntKind.u64 b 4294967295 = hS b := and32 _ (by omega) (by omega)
  have e3 : b / 1099511627776 = hH b := rfl
  have e4 : (bits BinOp.and IntKind.u64 (b / 68719476736) 1 == 1) = hM b := by rw [and1 _ (by omega) (by omega)]; rfl
  have k0 : 0 ≤ hK b := by unfold hK; omega
  have k1 : hK b < 16 := by unfold hK; omega
  have s0 : 0 ≤ hS b := by unfold hS; omega
  have s1 : hS b < 4294967296 := by unfold hS; omega
  have r0 : 0 ≤ hH b := by unfold hH; omega
  have r1 : hH b < 16777216 := by unfold hH; omega
  have hq := eq_words
  have hg0 := guard_words
  by_cases hz : checkZ a (hK b) (hS b) (hH b) = 0
  · have hp : (packZ (hK b) (hS b) (hH b) (hM b) == b) = false := by
      rw [beq_eq_false_iff_ne]
      intro h
      obtain ⟨h1, h2, h3, h4, h5, h6, h7⟩ := checkZ_ok.1 hz
      exact hok ⟨h1, h2, h4, h7, packZ_back.1 h⟩
    have PK := Lib.hid (pack_yes a (hK b) (hS b) (hH b) (hM b) a0 a1 r0 hz)
    generalize packZ (hK b) (hS b) (hH b) (hM b) = z at *
    clear hok hz
    go_enter Tryd.func52, Tryd.ntmps52
    go_wp2_with (go_at_call 37; refine (PK.out _).mono ?_; rintro e w1 ⟨rfl, hg⟩; obtain ⟨hc, hf⟩ := bcell hg; have hs := hg.size; (try simp at hs); have hs0 : w.heap.size < w1.heap.size := (by omega); have hs1 : w.heap.size + 1 < w1.heap.size := (by omega); have hs2 : w.heap.size + 2 < w1.heap.size := (by omega); have HG := Lib.hid hg; clear hg)
    refine bodyPost_ret (v := .tuple #[.agg #[.int .u64 0, .int .i64 0, .int .i64 0, .int .u32 0, .bool false], .int .i64 3]) (by simp [results, Tryd.results52, go_sem, hc, hs1]) rfl ⟨rfl, ?_⟩
    go_light
    have hg := HG.out
    repeat (first | with_reducible exact Below.refl _ _ | ((with_reducible refine Below.setCell ?_ ?_ _); rotate_left; focus (first | (simp; done) | (simp; omega) | omega)) | ((with_reducible refine Below.alloc ?_ ?_ _); rotate_left; focus (first | (simp; done) | (simp; omega) | omega)) | (with_reducible refine Below.drew ?_) | ((with_reducible refine Below.trans ?_ (Below.mono hg ?_)); rotate_left; focus (first | (simp; done) | (simp; omega) | omega)))
  · have hb := checkZ_bd a (hK b) (hS b) (hH b)
    have PK := Lib.hid (pack_no a (hK b) (hS b) (hH b) (hM b) a0 a1 hz)
    generalize checkZ a (hK b) (hS b) (hH b) = z at *
    obtain ⟨hb0, hb1⟩ := hb
    clear hok
    have hz' : 1 ≤ z := by omega
    clear hz
    go_enter Tryd.func52, Tryd.ntmps52
    go_wp2_with (go_at_call 37; refine (PK.out _).mono ?_; rintro e w1 ⟨rfl, hg⟩; obtain ⟨hc, hf⟩ := bcell hg; have hs := hg.size; (try simp at hs); have hs0 : w.heap.size < w1.heap.size := (by omega); have hs1 : w.heap.size + 1 < w1.heap.size := (by omega); have hs2 : w.heap.size + 2 < w1.heap.size := (by omega); have HG := Lib.hid hg; clear hg)
    refine bodyPost_ret (v := .tuple #[.agg #[.int .u64 0, .int .i64 0, .int .i64 0, .int .u32 0, .bool false], .int .i64 3]) (by simp [results, Tryd.results52, go_sem, hc, hs1]) rfl ⟨rfl, ?_⟩
    go_light
    have hg := HG.out
    repeat (first | with_reducible exact Below.refl _ _ | ((with_reducible refine Below.setCell ?_ ?_ _); rotate_left; focus (first | (simp; done) | (simp; omega) | omega)) | ((with_reducible refine Below.alloc ?_ ?_ _); rotate_left; focus (first | (simp; done) | (simp; omega) | omega)) | (with_reducible refine Below.drew ?_) | ((with_reducible refine Below.trans ?_ (Below.mono hg ?_)); rotate_left; focus (first | (simp; done) | (simp; omega) | omega)))

theorem ptr_yes (n : Int) (h0 : 1 ≤ n) (h1 : n < 16777216) (w : World) : Calls Tryd.prog 31 #[.int .i64 n] w fun e w' => e = .returned (.tuple #[.int .u64 (n * 2), .int .i64 0]) ∧ w = w' := by
  go_enter Tryd.func31, Tryd.ntmps31
  go_wp2
  go_ret2
  exact ⟨rfl, rfl⟩
theorem ptr_no (n : Int) (h : n < 1 ∨ 16777216 ≤ n) (w : World) : Calls Tryd.prog 31 #[.int .i64 n] w fun e w' => e = .returned (.tuple #[.int .u64 0, .int .i64 1]) ∧ w = w' := by
  rcases h with h | h
  all_goals
    go_enter Tryd.func31, Tryd.ntmps31
    go_wp2
    go_ret2
    exact ⟨rfl, rfl⟩
theorem at_no (a : Int) (h0 : 0 ≤ a) (h1 : a < 18446744073709551616) (h : a % 2 = 1 ∨ a = 0 ∨ 33554432 ≤ a) (w : World) : Calls Tryd.prog 49 #[.int .u64 a] w fun e w' => e = .returned (.tuple #[.int .i64 0, .int .i64 13]) ∧ w = w' := by
  by_cases ha : a % 2 = 1
  · go_enter Tryd.func49, Tryd.ntmps49
    go_wp2_with (go_at_call 48; refine (is_any a h0 h1 _).mono ?_; rintro e w' ⟨rfl, rfl⟩)
    go_ret2
    exact ⟨rfl, rfl⟩
  by_cases hb : a = 0
  · subst hb
    go_enter Tryd.func49, Tryd.ntmps49
    go_wp2_with (go_at_call 48; refine (is_any 0 h0 h1 _).mono ?_; rintro e w' ⟨rfl, rfl⟩)
    go_ret2
    exact ⟨rfl, rfl⟩
  have hc : 33554432 ≤ a := by omega
  clear h
  go_enter Tryd.func49, Tryd.ntmps49
  go_wp2_with (go_at_call 48; refine (is_any a h0 h1 _).mono ?_; rintro e w' ⟨rfl, rfl⟩)
  go_ret2
  exact ⟨rfl, rfl⟩
theorem at_yes (a : Int) (h0 : 1 ≤ a) (h1 : a < 33554432) (h : a % 2 = 0) (w : World) : Calls Tryd.prog 49 #[.int .u64 a] w fun e w' => e = .returned (.tuple #[.int .i64 (a / 2), .int .i64 0]) ∧ w = w' := by
  have h' : ¬ a % 2 = 1 := by omega
  clear h
  go_enter Tryd.func49, Tryd.ntmps49
  go_wp2_with (go_at_call 48; refine (is_any a (by omega) (by omega) _).mono ?_; rintro e w' ⟨rfl, rfl⟩)
  go_ret2
  exact ⟨rfl, rfl⟩
end Go.Proofs.YtobajnodckiohaaDoor
