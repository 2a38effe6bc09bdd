/- Layer 3 (head), and the references' heads: what each function answers. Conditions: the words are words. -/
import Derived.Test.YtibopjjicfiimaaGreatDoorRows
import Derived.Test.YtibopjjicfiimaaGreatDoorBits
import Derived.WalkKit
import Derived.WalkLawsBesides
import Derived.WalkSpells
import Derived.Lib.Hide
import Derived.Deep.Light
import Derived.BigGuardPart
namespace Go.Proofs.YtibopjjicfiimaaGreatDoor
open Go.RowKit
theorem is_any (a : Int) (h0 : 0 ≤ a) (h1 : a < 18446744073709551616) (w : World) : Calls Tryz.prog 75 #[.int .u64 a] w fun e w' => e = .returned (.bool (decide (a % 2 = 1))) ∧ w = w' := by
  have h := Lib.hid (and1 a h0 h1)
  go_enter Tryz.func75, Tryz.ntmps75
  go_wp2
  go_ret
  exact ⟨ret_bool (by rw [h.out]; rfl), rfl⟩
theorem risis_any (a : Int) (h0 : 0 ≤ a) (w : World) : Calls Tryz.prog 88 #[.int .u64 a] w fun e w' => e = .returned (.bool (decide (a % 2 = 1))) ∧ w = w' := by
  go_enter Tryz.func88, Tryz.ntmps88
  go_wp2
  go_ret
  exact ⟨ret_bool rfl, rfl⟩
/-- the error of a head that may not be: 0: it may be -/
def checkZ (c k s h : Int) : Int :=
  if c = 0 ∨ c % 2 = 1 then 1 else if s < 0 ∨ 1048576 < s then 2 else if 16777216 ≤ h then 9 else if k < 0 ∨ 2 < k then 13 else 0
theorem checkZ_ok {c k s h : Int} : checkZ c k s h = 0 ↔ (c ≠ 0 ∧ c % 2 ≠ 1 ∧ 0 ≤ s ∧ s ≤ 1048576 ∧ h < 16777216 ∧ 0 ≤ k ∧ k ≤ 2) := by
  unfold checkZ; repeat' split
  all_goals omega
theorem checkZ_bd (c k s h : Int) : 0 ≤ checkZ c k s h ∧ checkZ c k s h ≤ 13 := by
  unfold checkZ; repeat' split
  all_goals omega
set_option maxRecDepth 100000 in
theorem check_any (c k s h : Int) (m : Bool) (h0 : 0 ≤ c) (h1 : c < 18446744073709551616) (w : World) :
    Calls Tryz.prog 96 #[.agg #[.int .u64 c, .int .i64 k, .int .i64 s, .int .u32 h, .bool m]] w fun e w' => e = .returned (.int .i64 (checkZ c k s h)) ∧ Below w.heap.size w w' := by
  go_enter Tryz.func96, Tryz.ntmps96
  go_wp2_with (go_at_call 75; refine (is_any c h0 h1 _).mono ?_; rintro e w' ⟨rfl, rfl⟩)
  all_goals (go_ret; refine ⟨?_, (Below.refl _ _).alloc (Nat.le_refl _) _⟩; go_light; exact ret_int (by unfold checkZ; repeat (first | rw [if_pos (by omega)] | rw [if_neg (by omega)])))
/-- the second word of a head -/
def packZ (k s h : Int) (m : Bool) : Int := s + k * 4294967296 + h * 1099511627776 + if m then 68719476736 else 0
theorem pack_no (c k s h : Int) (m : Bool) (h0 : 0 ≤ c) (h1 : c < 18446744073709551616) (hz : checkZ c k s h ≠ 0) (w : World) :
    Calls Tryz.prog 71 #[.agg #[.int .u64 c, .int .i64 k, .int .i64 s, .int .u32 h, .bool m]] w fun e w' => e = .returned (.tuple #[.agg #[.int .u64 0, .int .u64 0], .int .i64 (checkZ c k s h)]) ∧ Below w.heap.size w w' := by
  have ck := check_any c k s h m h0 h1
  generalize checkZ c k s h = z at *
  have CK := Lib.hid ck; clear ck
  go_enter Tryz.func71, Tryz.ntmps71
  go_wp2_with (go_at_call 96; refine (CK.out _).mono ?_; rintro e w1 ⟨rfl, hg⟩; obtain ⟨hc, hf⟩ := bcell hg; have hs := hg.size; (try simp at hs); have hs0 : w.heap.size < w1.heap.size := (by omega); have hs1 : w.heap.size + 1 < w1.heap.size := (by omega); have HG := Lib.hid hg; clear hg)
  refine bodyPost_ret (v := .tuple #[.agg #[.int .u64 0, .int .u64 0], .int .i64 z]) (by simp [results, Tryz.results71, go_sem, hc]) rfl ⟨rfl, ?_⟩
  go_light
  have hg := HG.out
  repeat (first | with_reducible exact Below.refl _ _ | ((with_reducible refine Below.setCell ?_ ?_ _); rotate_left; focus (first | (simp; done) | (simp; omega) | omega)) | ((with_reducible refine Below.alloc ?_ ?_ _); rotate_left; focus (first | (simp; done) | (simp; omega) | omega)) | (with_reducible refine Below.drew ?_) | ((with_reducible refine Below.trans ?_ (Below.mono hg ?_)); rotate_left; focus (first | (simp; done) | (simp; omega) | omega)))
set_option maxRecDepth 100000 in
theorem pack_yes (c k s h : Int) (m : Bool) (h0 : 0 ≤ c) (h1 : c < 18446744073709551616) (hh : 0 ≤ h) (hz : checkZ c k s h = 0) (w : World) :
    Calls Tryz.prog 71 #[.agg #[.int .u64 c, .int .i64 k, .int .i64 s, .int .u32 h, .bool m]] w fun e w' => e = .returned (.tuple #[.agg #[.int .u64 c, .int .u64 (packZ k s h m)], .int .i64 0]) ∧ Below w.heap.size w w' := by
  have ck := check_any c k s h m h0 h1
  rw [hz] at ck
  obtain ⟨-, -, s0, s1, hh1, k0, k1⟩ := checkZ_ok.1 hz
  clear hz
  have e1 := Lib.hid (join32 s k (by omega) (by omega) (by omega) (by omega))
  have e2 := Lib.hid (join40 (s + k * 4294967296) h (by omega) (by omega) (by omega) (by omega))
  have e3 := Lib.hid (joinMark (s + k * 4294967296) h (by omega) (by omega) (by omega) (by omega))
  have CK := Lib.hid ck; clear ck
  go_enter Tryz.func71, Tryz.ntmps71
  cases m
  all_goals
    go_wp2_with (go_at_call 96; refine (CK.out _).mono ?_; rintro e w1 ⟨rfl, hg⟩; obtain ⟨hc, hf⟩ := bcell hg; have hs := hg.size; (try simp at hs); have hs0 : w.heap.size < w1.heap.size := (by omega); have hs1 : w.heap.size + 1 < w1.heap.size := (by omega); have HG := Lib.hid hg; clear hg)
    refine bodyPost_ret (v := .tuple #[.agg #[.int .u64 c, .int .u64 _], .int .i64 0]) (by simp [results, Tryz.results71, go_sem, hc]; rfl) rfl ⟨by first | (unfold packZ; rw [e1.out, e2.out, e3.out]; simp; done) | (unfold packZ; rw [e1.out, e2.out]; simp; done), ?_⟩
    go_light
    have hg := HG.out
    repeat (first | with_reducible exact Below.refl _ _ | ((with_reducible refine Below.setCell ?_ ?_ _); rotate_left; focus (first | (simp; done) | (simp; omega) | omega)) | ((with_reducible refine Below.alloc ?_ ?_ _); rotate_left; focus (first | (simp; done) | (simp; omega) | omega)) | (with_reducible refine Below.drew ?_) | ((with_reducible refine Below.trans ?_ (Below.mono hg ?_)); rotate_left; focus (first | (simp; done) | (simp; omega) | omega)))

/-- two words against two words -/
theorem eq_words (a b a' b' : Int) (w : World) : (Op.equalIn 10000 141 (.agg #[.int .u64 a, .int .u64 b]) (.agg #[.int .u64 a', .int .u64 b'])).run Tryz.prog w = .ok (a == a' && b == b') w := by
  have h0 : (part 39 #[Value.int .u64 a, .int .u64 b] 0).run Tryz.prog w = .ok (.int .u64 a) w := by kernel_rfl
  have h1 : (part 39 #[Value.int .u64 a, .int .u64 b] 1).run Tryz.prog w = .ok (.int .u64 b) w := by kernel_rfl
  have h2 : (part 39 #[Value.int .u64 a', .int .u64 b'] 0).run Tryz.prog w = .ok (.int .u64 a') w := by kernel_rfl
  have h3 : (part 39 #[Value.int .u64 a', .int .u64 b'] 1).run Tryz.prog w = .ok (.int .u64 b') w := by kernel_rfl
  have hs : (sizeOf 39).run Tryz.prog w = .ok 1 w := by kernel_rfl
  rw [show (10000 : Nat) = 9998 + 1 + 1 from rfl, Op.equalIn]
  simp [run_underlying Tryz.underlying141, hs, Std.Legacy.Range.forIn_eq_forIn_range', List.range'_succ, h0, h1, h2, h3, run_equalIn_int w _ 39 .u64 .u64 _ _ Tryz.underlying39, Std.Legacy.Range.size]
  by_cases ea : a = a' <;> by_cases eb : b = b' <;> simp [*]
theorem guard_words : Tryz.prog.eqGuardType Tryz.prog.depth 141 = false := by kernel_rfl
def hK (b : Int) : Int := b / 4294967296 % 16
def hS (b : Int) : Int := b % 4294967296
def hH (b : Int) : Int := b / 1099511627776
def hM (b : Int) : Bool := decide (b / 68719476736 % 2 = 1)
def UnOK (a b : Int) : Prop := a ≠ 0 ∧ a % 2 ≠ 1 ∧ hS b ≤ 1048576 ∧ hK b ≤ 2 ∧ b / 137438953472 % 8 = 0
theorem packZ_back {b : Int} : packZ (hK b) (hS b) (hH b) (hM b) = b ↔ b / 137438953472 % 8 = 0 := by
  unfold packZ hK hS hH hM
  by_cases h : b / 68719476736 % 2 = 1 <;> simp [h] <;> omega
theorem unOK_check {a b : Int} (h : UnOK a b) (h0 : 0 ≤ b) (h1 : b < 18446744073709551616) : checkZ a (hK b) (hS b) (hH b) = 0 := by
  obtain ⟨a0, a1, s1, k1, r⟩ := h
  rw [checkZ_ok]
  refine ⟨a0, a1, by unfold hS; omega, s1, by unfold hH; omega, by unfold hK; omega, k1⟩
set_option maxRecDepth 100000 in
set_option maxHeartbeats 400000 in
theorem unpack_yes (a b : Int) (a0 : 0 ≤ a) (a1 : a < 18446744073709551616) (b0 : 0 ≤ b) (b1 : b < 18446744073709551616) (hok : UnOK a b) (w : World) :
    Calls Tryz.prog 89 #[.agg #[.int .u64 a, .int .u64 b]] w fun e w' => e = .returned (.tuple #[.agg #[.int .u64 a, .int .i64 (hK b), .int .i64 (hS b), .int .u32 (hH b), .bool (hM b)], .int .i64 0]) ∧ Below w.heap.size w w' := by
  have e1 : bits BinOp.and IntKind.u64 (b / 4294967296) 15 = hK b := and15 _ (by omega) (by omega)
  have e2 : bits BinOp.and IntKind.u64 b 4294967295 = hS b := and32 _ (by omega) (by omega)
  have e3 : b / 1099511627776 = hH b := rfl
  have e4 : (bits BinOp.and IntKind.u64 (b / 68719476736) 1 == 1) = hM b := by rw [and1 _ (by omega) (by omega)]; rfl
  have k0 : 0 ≤ hK b := by unfold hK; omega
  have k1 : hK b < 16 := by unfold hK; omega
  have s0 : 0 ≤ hS b := by unfold hS; omega
  have s1 : hS b < 4294967296 := by unfold hS; omega
  have r0 : 0 ≤ hH b := by unfold hH; omega
  have r1 : hH b < 16777216 := by unfold hH; omega
  have pk := pack_yes a (hK b) (hS b) (hH b) (hM b) a0 a1 r0 (unOK_check hok b0 b1)
  rw [(packZ_back).2 hok.2.2.2.2] at pk
  have PK := Lib.hid pk; clear pk hok
  have hq := eq_words
  have hg0 := guard_words
  go_enter Tryz.func89, Tryz.ntmps89
  go_wp2_with (go_at_call 71; refine (PK.out _).mono ?_; rintro e w1 ⟨rfl, hg⟩; obtain ⟨hc, hf⟩ := bcell hg; have hs := hg.size; (try simp at hs); have hs0 : w.heap.size < w1.heap.size := (by omega); have hs1 : w.heap.size + 1 < w1.heap.size := (by omega); have hs2 : w.heap.size + 2 < w1.heap.size := (by omega); have HG := Lib.hid hg; clear hg)
  refine bodyPost_ret (v := .tuple #[.agg #[.int .u64 a, .int .i64 (hK b), .int .i64 (hS b), .int .u32 (hH b), .bool (hM b)], .int .i64 0]) (by simp [results, Tryz.results89, go_sem, hc, hs1]) rfl ⟨rfl, ?_⟩
  go_light
  have hg := HG.out
  repeat (first | with_reducible exact Below.refl _ _ | ((with_reducible refine Below.setCell ?_ ?_ _); rotate_left; focus (first | (simp; done) | (simp; omega) | omega)) | ((with_reducible refine Below.alloc ?_ ?_ _); rotate_left; focus (first | (simp; done) | (simp; omega) | omega)) | (with_reducible refine Below.drew ?_) | ((with_reducible refine Below.trans ?_ (Below.mono hg ?_)); rotate_left; focus (first | (simp; done) | (simp; omega) | omega)))
end Go.Proofs.YtibopjjicfiimaaGreatDoor
