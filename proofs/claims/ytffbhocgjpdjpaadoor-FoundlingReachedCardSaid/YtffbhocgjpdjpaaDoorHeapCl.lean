/- Memory that was cloned: its cells have room behind them. -/
import Derived.Test.YtffbhocgjpdjpaaDoorImgA
import Derived.Test.YtffbhocgjpdjpaaDoorPackSame
import Derived.Deep.RegionHeld3
namespace Go.Proofs.YtffbhocgjpdjpaaDoor
open Go.RowKit
set_option linter.unusedVariables false
/-- memory whose cells have room behind them -/
def HeapC (w : World) (B h N free : Nat) (S : Nat → Bool) (M : Nat → Nat) : Prop :=
  ∃ (g s C : Nat) (f : Nat → Value), B ≤ h ∧ B ≤ g ∧ N ≤ 16777216 ∧ 16 ≤ N ∧ free ≤ N ∧ N ≤ C ∧ C ≤ maxLen ∧ w.heap[h]? = some (.cells #[.slice (some ⟨g, 0, none⟩) N C, .int .i64 (free : Int), .pointer (some ⟨s, 0, none⟩), .int .u32 0] 94 (0, 0)) ∧
    w.rowIs g 49 C f ∧ (∀ i, i < N → f i = .int .u64 (M i : Int)) ∧ (∀ i, M i < 18446744073709551616) ∧ BitsAt w B s N S
theorem HeapC.later {w w' : World} {B h N free : Nat} {S : Nat → Bool} {M : Nat → Nat} (H : HeapC w B h N free S M) (hb : Below w.heap.size w w') : HeapC w' B h N free S M := by
  obtain ⟨g, s, C, f, h1, h2, h3, h3', h4, hCN, hCm, h5, h6, hf, h7, h8⟩ := H
  exact ⟨g, s, C, f, h1, h2, h3, h3', h4, hCN, hCm, by rw [hb.block h (Array.getElem?_eq_some_iff.1 h5).1]; exact h5, h6.of_block (hb.block g h6.lt), hf, h7, h8.later hb⟩
theorem cl_shape {w : World} {B N : Nat} {v : Value} {xs : List Value} (h : w.ownsRow B 49 1 v N xs) (h0 : 0 < N) : ∃ ga gc, v = .slice (some ⟨ga, 0, none⟩) N gc ∧ w.ownsRow B 49 1 (.slice (some ⟨ga, 0, none⟩) N gc) N xs := by
  obtain ⟨g, cap, rfl, -⟩ := World.ownsRow.form h h0
  exact ⟨g, cap, rfl, h⟩
set_option maxRecDepth 100000 in
set_option maxHeartbeats 1600000 in
theorem hclone_any (B h N free : Nat) (S : Nat → Bool) (M : Nat → Nat) (w : World) (H : HeapAt w B h N free S M) (hN : N ≤ 100000) :
    Calls Tryd.prog 10 #[.pointer (some ⟨h, 0, none⟩)] w fun e w' => ∃ h', e = .returned (.pointer (some ⟨h', 0, none⟩)) ∧ HeapC w' w.heap.size h' N free S M ∧ Below w.heap.size w w' := by
  obtain ⟨g, s, h1, h2, h3, h3', h4, h5, h6, h7, h8⟩ := H
  have hl := (Array.getElem?_eq_some_iff.1 h5).1
  have c0 : w.cell? ⟨h, 0, none⟩ = some (.slice (some ⟨g, 0, none⟩) N N) := by simp [World.cell?, h5]
  have c1 : w.cell? ⟨h, 1, none⟩ = some (.int .i64 (free : Int)) := by simp [World.cell?, h5]
  have c2 : w.cell? ⟨h, 2, none⟩ = some (.pointer (some ⟨s, 0, none⟩)) := by simp [World.cell?, h5]
  have c3 : w.cell? ⟨h, 3, none⟩ = some (.int .u32 0) := by simp [World.cell?, h5]
  have hll : ((List.range N).map M).length = N := by simp
  have hwa : WordsAt w (.slice (some ⟨g, 0, none⟩) ((List.range N).map M).length N) ((List.range N).map M) := by
    refine ⟨_, N, rfl, by omega, by unfold maxLen; omega, Or.inr ⟨g, 0, rfl, fun j hj => ?_⟩, fun h => by cases h⟩
    rw [wordVals_length, hll] at hj
    rw [Nat.zero_add, h6.cell hj]
    simp [wordVals, hj]
  have CW := Lib.hid (fun W (hW : Below w.heap.size w W) => clonew_any ⟨g, 0, none⟩ N ((List.range N).map M) W (hwa.later hW) (by omega))
  rw [hll] at CW
  have hN0 : 0 < N := by omega
  have CB := Lib.hid (fun W (hW : Below w.heap.size w W) => clone_bits B s N S W (h8.later hW))
  clear h5 h6 h8 hwa
  go_enter Tryd.func10, Tryd.ntmps10
  go_wp2_with fail
  have z0 : Below w.heap.size w w := Below.refl _ _
  have d0 : Below w.heap.size w w.drew := z0.drew
  go_region_held3 (fun w' => w'.cell? ⟨h, 0, none⟩ = some (.slice (some ⟨g, 0, none⟩) N N) ∧ w'.cell? ⟨h, 1, none⟩ = some (.int .i64 (free : Int)) ∧ w'.cell? ⟨h, 2, none⟩ = some (.pointer (some ⟨s, 0, none⟩)) ∧ w'.cell? ⟨h, 3, none⟩ = some (.int .u32 0))
    (first | exact ⟨c0, c1, c2, c3⟩ | exact ⟨p0, p1, p2, p3⟩ | exact ⟨q0, q1, q2, q3⟩ | go_keep)
    (first
    | (go_at_call 39; refine (CW.out _ (by assumption)).mono ?_; rintro e w1 ⟨v', rfl, ho1, hg1⟩; obtain ⟨ga, gc, rfl, ho1⟩ := cl_shape ho1 hN0; have b1 : Below w.heap.size w w1 := Below.trans (by assumption) (hg1.mono (Below.size (by assumption))); have p0 : w1.cell? ⟨h, 0, none⟩ = some (.slice (some ⟨g, 0, none⟩) N N) := (b1.cell (p := ⟨h, 0, none⟩) hl).trans c0; have p1 : w1.cell? ⟨h, 1, none⟩ = some (.int .i64 (free : Int)) := (b1.cell (p := ⟨h, 1, none⟩) hl).trans c1; have p2 : w1.cell? ⟨h, 2, none⟩ = some (.pointer (some ⟨s, 0, none⟩)) := (b1.cell (p := ⟨h, 2, none⟩) hl).trans c2; have p3 : w1.cell? ⟨h, 3, none⟩ = some (.int .u32 0) := (b1.cell (p := ⟨h, 3, none⟩) hl).trans c3; have HO1 := Lib.hid ho1; have HG1 := Lib.hid hg1; clear ho1 hg1)
    | (go_at_call 40; refine (CB.out _ (by assumption)).mono ?_; rintro e w2 ⟨b', rfl, hb2, hg2⟩; have b2 : Below w.heap.size w w2 := Below.trans (by assumption) (hg2.mono (Below.size (by assumption))); have q0 : w2.cell? ⟨h, 0, none⟩ = some (.slice (some ⟨g, 0, none⟩) N N) := (b2.cell (p := ⟨h, 0, none⟩) hl).trans c0; have q1 : w2.cell? ⟨h, 1, none⟩ = some (.int .i64 (free : Int)) := (b2.cell (p := ⟨h, 1, none⟩) hl).trans c1; have q2 : w2.cell? ⟨h, 2, none⟩ = some (.pointer (some ⟨s, 0, none⟩)) := (b2.cell (p := ⟨h, 2, none⟩) hl).trans c2; have q3 : w2.cell? ⟨h, 3, none⟩ = some (.int .u32 0) := (b2.cell (p := ⟨h, 3, none⟩) hl).trans c3; have HB2 := Lib.hid hb2; have HG2 := Lib.hid hg2; clear hb2 hg2))
  obtain ⟨ga', cp, f, he, e1, e2, e3, e4, e5⟩ := row_of_owns_nn (owns_later HO1.out HG2.out) (by simp)
  simp only [Value.slice.injEq, Option.some.injEq, Addr.mk.injEq, true_and, and_true] at he
  obtain ⟨rfl, rfl⟩ := he
  have hb2 := HB2.out
  have hs1 := b1.size
  have hs2 := b2.size
  go_wp2_with fail
  go_ret
  refine ⟨w2.heap.size, rfl, ⟨ga, b', gc, f, by omega, e1, h3, h3', h4, e2, e3, heap_alloc_new w2 _, e4.alloc _, fun i hi => ?_, h7, (hb2.mono hs1).later ((Below.refl _ w2).alloc (Nat.le_refl _) _)⟩, b2.alloc hs2 _⟩
  refine e5 i _ ?_
  simp [wordVals, hi]
set_option maxRecDepth 100000 in
theorem cat_yes (B h N free a : Nat) (S : Nat → Bool) (M : Nat → Nat) (w : World) (H : HeapC w B h N free S M) (a0 : 1 ≤ a) (a1 : a < 16777216) :
    Calls Tryd.prog 54 #[.pointer (some ⟨h, 0, none⟩), .int .u64 (a * 2 : Int)] w fun e w' => e = .returned (.tuple #[.int .i64 (a : Int), .bool (S a)]) ∧ Below w.heap.size w w' := by
  obtain ⟨g, s, C, f, h1, h2, h3, h3', h4, hCN, hCm, h5, h6, hf, h7, h8⟩ := H
  have hl := (Array.getElem?_eq_some_iff.1 h5).1
  have c2 : w.cell? ⟨h, 2, none⟩ = some (.pointer (some ⟨s, 0, none⟩)) := by simp [World.cell?, h5]
  have A := Lib.hid (at_yes ((a : Int) * 2) (by omega) (by omega) (by omega) w)
  rw [show (a : Int) * 2 / 2 = (a : Int) by omega] at A
  have HS := Lib.hid (has_any B s N S (a : Int) w h8)
  rw [show (decide (0 ≤ (a : Int)) && S (a : Int).toNat) = S a by simp] at HS
  generalize S a = sa at *
  clear h5 h6 h8
  go_enter Tryd.func54, Tryd.ntmps54
  go_wp2_with fail
  refine A.out.mono ?_
  rintro e w1 ⟨rfl, hw⟩
  subst hw
  go_wp2_with fail
  refine HS.out.mono ?_
  rintro e w2 ⟨rfl, hg⟩
  have HG := Lib.hid hg; clear hg
  go_wp2_with fail
  exact bodyPost_ret (v := .tuple #[.int .i64 (a : Int), .bool sa]) (by simp [results, Tryd.results54, go_sem]) rfl ⟨rfl, HG.out⟩
set_option maxRecDepth 100000 in
theorem chas_yes (B h N free a : Nat) (S : Nat → Bool) (M : Nat → Nat) (w : World) (H : HeapC w B h N free S M) (a0 : 1 ≤ a) (a1 : a < 16777216) :
    Calls Tryd.prog 52 #[.pointer (some ⟨h, 0, none⟩), .int .u64 (a * 2 : Int)] w fun e w' => e = .returned (.bool (S a)) ∧ Below w.heap.size w w' := by
  have A := Lib.hid (cat_yes B h N free a S M w H a0 a1)
  go_enter Tryd.func52, Tryd.ntmps52
  go_wp2_with fail
  refine A.out.mono ?_
  rintro e w2 ⟨rfl, hg⟩
  have HG := Lib.hid hg; clear hg
  go_wp2_with fail
  go_ret
  exact ⟨rfl, HG.out⟩
set_option maxRecDepth 100000 in
theorem chead_yes (B h N free at_ : Nat) (S : Nat → Bool) (M : Nat → Nat) (w : World) (H : HeapC w B h N free S M) (ha : at_ + 2 ≤ N) (hok : UnOK (M at_) (M (at_ + 1))) :
    Calls Tryd.prog 65 #[.pointer (some ⟨h, 0, none⟩), .int .i64 (at_ : Int)] w fun e w' => e = .returned (.agg #[.int .u64 (M at_ : Int), .int .i64 (hK (M (at_ + 1))), .int .i64 (hS (M (at_ + 1))), .int .u32 (hH (M (at_ + 1))), .bool (hM (M (at_ + 1)))]) ∧ Below w.heap.size w w' := by
  obtain ⟨g, s, C, f, h1, h2, h3, h3', h4, hCN, hCm, h5, h6, hf, h7, h8⟩ := H
  have hl := (Array.getElem?_eq_some_iff.1 h5).1
  have hlg := h6.lt
  have c0 : w.cell? ⟨h, 0, none⟩ = some (.slice (some ⟨g, 0, none⟩) N C) := by simp [World.cell?, h5]
  have k0 := (h6.cell (i := at_) (by omega)).trans (congrArg some (hf at_ (by omega)))
  have k1 := (h6.cell (i := at_ + 1) (by omega)).trans (congrArg some (hf (at_ + 1) (by omega)))
  have b0 := h7 at_
  have b1 := h7 (at_ + 1)
  have U := Lib.hid (fun W => unpack_yes (M at_) (M (at_ + 1)) (by omega) (by omega) (by omega) (by omega) hok W)
  unfold maxLen at hCm
  clear h5 h6 h8 hok hf
  generalize hK (M (at_ + 1)) = vk at *
  generalize hS (M (at_ + 1)) = vs at *
  generalize hH (M (at_ + 1)) = vh at *
  generalize hM (M (at_ + 1)) = vm at *
  have har : ∀ W : World, (Instr.arrayAt 134 (.slice (some ⟨g, at_, none⟩) 2 (C - at_))).run Tryd.prog W = .ok (.pointer (some ⟨g, at_, none⟩)) W := fun W => run_arrayAt W 134 49 2 _ _ _ Tryd.underlying134 (Nat.le_refl _)
  go_enter Tryd.func65, Tryd.ntmps65
  go_wp2_with fail
  refine (U.out _).mono ?_
  rintro e w1 ⟨rfl, hg⟩
  have hsz := hg.size
  simp at hsz
  have hlw : w.heap.size < w1.heap.size := by omega
  have hgx := Lib.hid hg
  have HG := Lib.hid (((Below.refl _ w).alloc (Nat.le_refl _) _).trans (hg.mono (by simp)) : Below w.heap.size w w1)
  have hcz : w1.heap[w.heap.size]? = some (.cells #[.int .u64 0, .int .i64 0, .int .i64 0, .int .u32 0, .bool false] 70 (0, 0)) := by
    rw [hg.block w.heap.size (by simp)]; exact heap_alloc_new w _
  have z0 : w1.cell? ⟨w.heap.size, 0, none⟩ = _ := cellO hcz 0
  have z1 : w1.cell? ⟨w.heap.size, 1, none⟩ = _ := cellO hcz 1
  have z2 : w1.cell? ⟨w.heap.size, 2, none⟩ = _ := cellO hcz 2
  have z3 : w1.cell? ⟨w.heap.size, 3, none⟩ = _ := cellO hcz 3
  have z4 : w1.cell? ⟨w.heap.size, 4, none⟩ = _ := cellO hcz 4
  have y : ∀ j, w1.frozen? ⟨w.heap.size, j, none⟩ = false := fun j => by unfold World.frozen?; rw [hcz]; cases j <;> rfl
  simp at z0 z1 z2 z3 z4
  clear hg hcz
  go_wp2_with fail
  refine bodyPost_ret (v := .agg #[.int .u64 (M at_ : Int), .int .i64 vk, .int .i64 vs, .int .u32 vh, .bool vm]) (by simp [results, Tryd.results65, go_sem, z0, z1, z2, z3, z4, hlw]) rfl ⟨rfl, ?_⟩
  have hb := HG.out
  repeat (first | with_reducible exact Below.refl _ _ | ((with_reducible refine Below.setCell ?_ ?_ _); rotate_left; focus (first | (simp; done) | (simp; omega) | omega)) | ((with_reducible refine Below.alloc ?_ ?_ _); rotate_left; focus (first | (simp; done) | (simp; omega) | omega)) | (with_reducible refine Below.drew ?_) | ((with_reducible refine Below.trans ?_ (Below.mono hb ?_)); rotate_left; focus (first | (simp; done) | (simp; omega) | omega)))
set_option maxRecDepth 100000 in
theorem cfind_slot (B h N free a i : Nat) (S : Nat → Bool) (M : Nat → Nat) (w : World) (H : HeapC w B h N free S M) (a0 : 1 ≤ a) (ha : a + 2 ≤ N) (hS' : S a = true) (hok : UnOK (M a) (M (a + 1))) (hk : hK (M (a + 1)) ≠ 2) (hi : (i : Int) < hS (M (a + 1))) :
    Calls Tryd.prog 66 #[.pointer (some ⟨h, 0, none⟩), .int .u64 (a * 2 : Int), .int .i64 (i : Int), .bool false] w fun e w' => e = .returned (.tuple #[.int .i64 ((a + 2 + i : Nat) : Int), .int .i64 0]) ∧ Below w.heap.size w w' := by
  have hN : N ≤ 16777216 := by obtain ⟨g, s, C, f, -, -, h3, -⟩ := H; exact h3
  have A := Lib.hid (cat_yes B h N free a S M w H a0 (by omega))
  rw [hS'] at A
  have HD := Lib.hid (fun W (hW : Below w.heap.size w W) => chead_yes B h N free a S M W (H.later hW) ha hok)
  have hlim : hS (M (a + 1)) ≤ 1048576 := hok.2.2.1
  have q1 : (hK (M (a + 1)) == 2) = false := by rw [beq_eq_false_iff_ne]; exact hk
  clear H hok
  generalize hK (M (a + 1)) = vk at *
  generalize hS (M (a + 1)) = vs at *
  generalize hH (M (a + 1)) = vh at *
  generalize hM (M (a + 1)) = vm at *
  go_enter Tryd.func66, Tryd.ntmps66
  go_wp2_with fail
  refine A.out.mono ?_
  rintro e w1 ⟨rfl, hg1⟩
  have HG1 := Lib.hid hg1; clear hg1
  go_wp2_with fail
  refine (HD.out w1 HG1.out).mono ?_
  rintro e w2 ⟨rfl, hg2⟩
  have HG2 := Lib.hid (HG1.out.trans (hg2.mono HG1.out.size)); clear hg2
  go_wp2_with fail
  all_goals (try (exfalso; go_light; omega))
  refine bodyPost_ret (v := .tuple #[.int .i64 ((a + 2 + i : Nat) : Int), .int .i64 0]) (by simp [results, Tryd.results66, go_sem]) rfl ⟨rfl, ?_⟩
  exact HG2.out.alloc HG2.out.size _
set_option maxRecDepth 100000 in
theorem cget_yes (B h N free a i : Nat) (S : Nat → Bool) (M : Nat → Nat) (w : World) (H : HeapC w B h N free S M) (a0 : 1 ≤ a) (ha : a + 2 + i < N) (hS' : S a = true) (hok : UnOK (M a) (M (a + 1))) (hk : hK (M (a + 1)) ≠ 2) (hi : (i : Int) < hS (M (a + 1))) :
    Calls Tryd.prog 28 #[.pointer (some ⟨h, 0, none⟩), .int .u64 (a * 2 : Int), .int .i64 (i : Int)] w fun e w' => e = .returned (.tuple #[.int .u64 (M (a + 2 + i) : Int), .int .i64 0]) ∧ Below w.heap.size w w' := by
  have F := Lib.hid (cfind_slot B h N free a i S M w H a0 (by omega) hS' hok hk hi)
  obtain ⟨g, s, C, f, h1, h2, h3, h3', h4, hCN, hCm, h5, h6, hf, h7, h8⟩ := H
  have hl := (Array.getElem?_eq_some_iff.1 h5).1
  have hlg := h6.lt
  have c0 : w.cell? ⟨h, 0, none⟩ = some (.slice (some ⟨g, 0, none⟩) N C) := by simp [World.cell?, h5]
  have k0 := (h6.cell (i := a + 2 + i) (by omega)).trans (congrArg some (hf (a + 2 + i) ha))
  unfold maxLen at hCm
  clear h5 h6 h8 hok hS' hk hi hf
  generalize hq : a + 2 + i = q at *
  clear hq
  go_enter Tryd.func28, Tryd.ntmps28
  go_wp2_with fail
  refine F.out.mono ?_
  rintro e w1 ⟨rfl, hg⟩
  have c0' : w1.cell? ⟨h, 0, none⟩ = _ := (hg.cell (p := ⟨h, 0, none⟩) hl).trans c0
  have k0' : w1.cell? ⟨g, q, none⟩ = _ := (hg.cell (p := ⟨g, q, none⟩) hlg).trans k0
  have HG := Lib.hid hg; clear hg c0 k0
  go_wp2_with fail
  exact bodyPost_ret (v := .tuple #[.int .u64 (M q : Int), .int .i64 0]) (by simp [results, Tryd.results28, go_sem]) rfl ⟨rfl, HG.out⟩
set_option maxRecDepth 100000 in
theorem cHead_yes (B h N free a : Nat) (S : Nat → Bool) (M : Nat → Nat) (w : World) (H : HeapC w B h N free S M) (a0 : 1 ≤ a) (ha : a + 2 ≤ N) (hS' : S a = true) (hok : UnOK (M a) (M (a + 1))) :
    Calls Tryd.prog 27 #[.pointer (some ⟨h, 0, none⟩), .int .u64 (a * 2 : Int)] w fun e w' => e = .returned (.tuple #[.agg #[.int .u64 (M a : Int), .int .i64 (hK (M (a + 1))), .int .i64 (hS (M (a + 1))), .int .u32 (hH (M (a + 1))), .bool (hM (M (a + 1)))], .int .i64 0]) ∧ Below w.heap.size w w' := by
  have hN : N ≤ 16777216 := by obtain ⟨g, s, C, f, -, -, h3, -⟩ := H; exact h3
  have A := Lib.hid (fun W (hW : Below w.heap.size w W) => cat_yes B h N free a S M W (H.later hW) a0 (by omega))
  rw [hS'] at A
  have HD := Lib.hid (fun W (hW : Below w.heap.size w W) => chead_yes B h N free a S M W (H.later hW) ha hok)
  clear H hok
  generalize hK (M (a + 1)) = vk at *
  generalize hS (M (a + 1)) = vs at *
  generalize hH (M (a + 1)) = vh at *
  generalize hM (M (a + 1)) = vm at *
  have hz0 : Below w.heap.size w (w.alloc (.cells #[.int .u64 0, .int .i64 0, .int .i64 0, .int .u32 0, .bool false] 70)) := (Below.refl _ w).alloc (Nat.le_refl _) _
  have HZ0 := Lib.hid hz0; clear hz0
  go_enter Tryd.func27, Tryd.ntmps27
  go_wp2_with fail
  refine (A.out _ HZ0.out).mono ?_
  rintro e w1 ⟨rfl, hg1⟩
  have hx1 : w1.heap[w.heap.size]? = some (.cells #[.int .u64 0, .int .i64 0, .int .i64 0, .int .u32 0, .bool false] 70 (0, 0)) := by
    rw [hg1.block w.heap.size (by simp)]; exact heap_alloc_new w _
  have hl1 : w.heap.size < w1.heap.size := (Array.getElem?_eq_some_iff.1 hx1).1
  have HX1 := Lib.hid hx1
  have HG1 := Lib.hid (HZ0.out.trans (hg1.mono (by simp)) : Below w.heap.size w w1)
  clear hg1 hx1
  go_wp2_with fail
  refine (HD.out w1 HG1.out).mono ?_
  rintro e w2 ⟨rfl, hg2⟩
  have hx2 : w2.heap[w.heap.size]? = some (.cells #[.int .u64 0, .int .i64 0, .int .i64 0, .int .u32 0, .bool false] 70 (0, 0)) := by
    rw [hg2.block w.heap.size hl1]; exact HX1.out
  have hlw : w.heap.size < w2.heap.size := (Array.getElem?_eq_some_iff.1 hx2).1
  have z0 : w2.cell? ⟨w.heap.size, 0, none⟩ = _ := cellO hx2 0
  have z1 : w2.cell? ⟨w.heap.size, 1, none⟩ = _ := cellO hx2 1
  have z2 : w2.cell? ⟨w.heap.size, 2, none⟩ = _ := cellO hx2 2
  have z3 : w2.cell? ⟨w.heap.size, 3, none⟩ = _ := cellO hx2 3
  have z4 : w2.cell? ⟨w.heap.size, 4, none⟩ = _ := cellO hx2 4
  have y : ∀ j, w2.frozen? ⟨w.heap.size, j, none⟩ = false := fun j => by unfold World.frozen?; rw [hx2]; cases j <;> rfl
  simp at z0 z1 z2 z3 z4
  have HG2 := Lib.hid (HG1.out.trans (hg2.mono HG1.out.size) : Below w.heap.size w w2)
  clear hg2 hx2
  go_wp2_with fail
  refine bodyPost_ret (v := .tuple #[.agg #[.int .u64 (M a : Int), .int .i64 vk, .int .i64 vs, .int .u32 vh, .bool vm], .int .i64 0]) (by simp [results, Tryd.results27, go_sem, z0, z1, z2, z3, z4]) rfl ⟨rfl, ?_⟩
  have hb := HG2.out
  repeat (first | with_reducible exact Below.refl _ _ | ((with_reducible refine Below.setCell ?_ ?_ _); rotate_left; focus (first | (simp; done) | (simp; omega) | omega)) | ((with_reducible refine Below.alloc ?_ ?_ _); rotate_left; focus (first | (simp; done) | (simp; omega) | omega)) | (with_reducible refine Below.drew ?_) | ((with_reducible refine Below.trans ?_ (Below.mono hb ?_)); rotate_left; focus (first | (simp; done) | (simp; omega) | omega)))
set_option maxRecDepth 100000 in
theorem ccells_any (B h N free : Nat) (S : Nat → Bool) (M : Nat → Nat) (w : World) (H : HeapC w B h N free S M) :
    Calls Tryd.prog 15 #[.pointer (some ⟨h, 0, none⟩)] w fun e w' => e = .returned (.int .i64 (N : Int)) ∧ w' = w := by
  obtain ⟨g, s, C, f, h1, h2, h3, h3', h4, hCN, hCm, h5, h6, hf, h7, h8⟩ := H
  have c0 : w.cell? ⟨h, 0, none⟩ = some (.slice (some ⟨g, 0, none⟩) N C) := by simp [World.cell?, h5]
  have hl := (Array.getElem?_eq_some_iff.1 h5).1
  clear h5 h6 h8 hf
  go_enter Tryd.func15, Tryd.ntmps15
  go_wp2_with fail
  go_ret
  exact ⟨rfl, rfl⟩
set_option maxRecDepth 100000 in
theorem eqW_any (v u : Value) (l m : List Int) (w : World) (hv : NumsAt w .u64 v l) (hu : NumsAt w .u64 u m) :
    Calls Tryd.prog 50 #[v, u] w fun e w' => e = .returned (.bool (l == m)) ∧ Below w.heap.size w w' := by
  obtain ⟨a, ca, rfl, v1, v2, -, v3⟩ := hv.get
  obtain ⟨b, cb, rfl, u1, u2, -, u3⟩ := hu.get
  have V := Lib.hid v3; have U := Lib.hid u3; clear v3 u3 hv hu
  unfold maxLen at v2 u2
  by_cases hlen : l.length = m.length
  · have HE := Lib.hid (take_all hlen)
    have hq : (((l.length : Int)) == (m.length : Int)) = true := by rw [beq_iff_eq]; omega
    have HQ := Lib.hid hlen
    go_enter Tryd.func50, Tryd.ntmps50
    go_wp2_with fail
    go_loopg [13] l.length (fun g i wr => ∃ k : Nat, g = l.length - k ∧ k ≤ l.length ∧ i = .int .i64 k ∧ Below w.heap.size w wr ∧ ∀ i (h1 : i < l.length) (h2 : i < m.length), i < k → l[i] = m[i])
    case atStart => exact ⟨0, rfl, by omega, rfl, Below.refl _ _, fun i _ _ h => by omega⟩
    case round =>
      obtain ⟨k, hgk, hk, rfl, hb, hs⟩ := hrel
      have HK := Lib.hid hgk; have HB := Lib.hid hb; have HS := Lib.hid hs; clear hgk hs
      have hwl := hb.size
      by_cases hlt : k < l.length
      · have hlm : k < m.length := by omega
        obtain ⟨vb, vo, hva, hvl, hvc, -⟩ := V.out k hlt
        obtain ⟨ub, uo, hua, hul, huc, -⟩ := U.out k hlm
        have hvc' : wr.cell? ⟨vb, vo + k, none⟩ = _ := (hb.cell (p := ⟨vb, vo + k, none⟩) hvl).trans hvc
        have huc' : wr.cell? ⟨ub, uo + k, none⟩ = _ := (hb.cell (p := ⟨ub, uo + k, none⟩) hul).trans huc
        subst hva hua
        have hvl' : vb < wr.heap.size := by omega
        have hul' : ub < wr.heap.size := by omega
        clear hvc huc hb
        by_cases he : l[k] = m[k]
        · have HS' := Lib.hid (show ∀ i (h1 : i < l.length) (h2 : i < m.length), i < k + 1 → l[i] = m[i] from fun i h1 h2 h3 => by
            by_cases hik : i = k
            · subst hik; exact he
            · exact HS.out i h1 h2 (by omega))
          rw [he] at hvc'
          generalize m[k] = c at *
          have q5 : (c != c) = false := bne_self_eq_false _
          have q6 : (c == c) = true := beq_self_eq_true _
          clear he
          go_wp2_with fail
          (refine wp_region_later (by kernel_rfl) (by kernel_rfl) ?_; (repeat (go_big_quiet_step ((fail)))); refine wpQuiet_nil ?_; intro w4 hw4; have hg := later_elim hw4; clear hw4)
          have HB4 := Lib.hid (HB.out.trans (hg.mono hwl)); clear hg
          go_wp2_with fail
          go_roundg (l.length - (k + 1))
          case measure => rw [HK.out]; omega
          case rel => exact ⟨k + 1, rfl, by omega, by go_num, HB4.out, HS'.out⟩
        · have hne : (l == m) = false := by
            rw [beq_eq_false_iff_ne]; intro h; apply he; subst h; rfl
          have HNE := Lib.hid hne
          clear hne
          generalize m[k] = c at *
          generalize l[k] = d at *
          have q5 : (d != c) = true := by simp [he]
          have q6 : (d == c) = false := by simp [he]
          go_wp2_with fail
          (refine wp_region_later (by kernel_rfl) (by kernel_rfl) ?_; (repeat (go_big_quiet_step ((fail)))); refine wpQuiet_nil ?_; intro w4 hw4; have hg := later_elim hw4; clear hw4)
          have HB4 := Lib.hid (HB.out.trans (hg.mono hwl)); clear hg
          go_wp2_with fail
          go_ret
          exact ⟨ret_bool HNE.out.symm, HB4.out⟩
      · obtain rfl : k = l.length := by omega
        have he : (l == m) = true := by rw [beq_iff_eq]; exact HE.out fun i h1 h2 => HS.out i h1 h2 h1
        have HE' := Lib.hid he
        clear he hb
        go_wp2_with fail
        go_ret
        exact ⟨ret_bool HE'.out.symm, HB.out⟩
  · have hne : (l == m) = false := by rw [beq_eq_false_iff_ne]; intro h; exact hlen (by rw [h])
    rw [hne]
    clear hne
    have hq : ¬ (l.length : Int) = (m.length : Int) := by omega
    go_enter Tryd.func50, Tryd.ntmps50
    go_wp2_with fail
    go_ret
    exact ⟨rfl, Below.refl _ _⟩
theorem nums_of_row {w : World} {g N C : Nat} {f : Nat → Value} {M : Nat → Nat} (h : w.rowIs g 49 C f) (hf : ∀ i, i < N → f i = .int .u64 (M i : Int)) (hN : N ≤ C) (hC : C ≤ maxLen) (hM : ∀ i, M i < 18446744073709551616) :
    NumsAt w .u64 (.slice (some ⟨g, 0, none⟩) N C) ((List.range N).map fun i => (M i : Int)) := by
  have hl : ((List.range N).map fun i => (M i : Int)).length = N := by simp
  refine ⟨some ⟨g, 0, none⟩, C, by rw [hl], by omega, hC, fun h => by (cases h), fun i hi => ⟨g, 0, rfl, ?_, ?_⟩⟩
  · rw [Nat.zero_add, h.cell (i := i) (by omega), hf i (by omega)]
    simp
  · have := hM i
    simp only [List.getElem_map, List.getElem_range]
    exact WalkArith.wf_u64 (by omega)
set_option maxRecDepth 100000 in
set_option maxHeartbeats 1600000 in
theorem hsame_yes (B B' h h' N free : Nat) (S : Nat → Bool) (M : Nat → Nat) (w : World) (H : HeapAt w B h N free S M) (H' : HeapC w B' h' N free S M) :
    Calls Tryd.prog 13 #[.pointer (some ⟨h, 0, none⟩), .pointer (some ⟨h', 0, none⟩)] w fun e w' => e = .returned (.bool true) ∧ Below w.heap.size w w' := by
  obtain ⟨g, s, h1, h2, h3, h3', h4, h5, h6, h7, h8⟩ := H
  obtain ⟨g', s', C, f, k1, k2, k3, k3', k4, kCN, kCm, k5, k6, kf, k7, k8⟩ := H'
  have hl := (Array.getElem?_eq_some_iff.1 h5).1
  have hl' := (Array.getElem?_eq_some_iff.1 k5).1
  have c0 : w.cell? ⟨h, 0, none⟩ = some (.slice (some ⟨g, 0, none⟩) N N) := by simp [World.cell?, h5]
  have c1 : w.cell? ⟨h, 1, none⟩ = some (.int .i64 (free : Int)) := by simp [World.cell?, h5]
  have c2 : w.cell? ⟨h, 2, none⟩ = some (.pointer (some ⟨s, 0, none⟩)) := by simp [World.cell?, h5]
  have c3 : w.cell? ⟨h, 3, none⟩ = some (.int .u32 0) := by simp [World.cell?, h5]
  have d0 : w.cell? ⟨h', 0, none⟩ = some (.slice (some ⟨g', 0, none⟩) N C) := by simp [World.cell?, k5]
  have d1 : w.cell? ⟨h', 1, none⟩ = some (.int .i64 (free : Int)) := by simp [World.cell?, k5]
  have d2 : w.cell? ⟨h', 2, none⟩ = some (.pointer (some ⟨s', 0, none⟩)) := by simp [World.cell?, k5]
  have d3 : w.cell? ⟨h', 3, none⟩ = some (.int .u32 0) := by simp [World.cell?, k5]
  have n1 := nums_of_row h6 (N := N) (fun i _ => rfl) (Nat.le_refl N) (by unfold maxLen; omega) h7
  have n2 := nums_of_row k6 kf kCN kCm k7
  have EW := Lib.hid (fun W (hW : Below w.heap.size w W) => (eqW_any _ _ _ _ W (n1.later hW) (n2.later hW)).mono fun e w' h => show e = .returned (.bool true) ∧ Below W.heap.size W w' from by
    rw [beq_self_eq_true] at h; exact h)
  have ES := Lib.hid (fun W (hW : Below w.heap.size w W) => (same_any B s N B' s' N S S W (h8.later hW) (k8.later hW)).mono fun e w' h => show e = .returned (.bool true) ∧ Below W.heap.size W w' from by
    obtain ⟨r, rfl, hr, hb⟩ := h
    rw [hr.2 ⟨rfl, rfl⟩]; exact ⟨rfl, hb⟩)
  have q1 : ((free : Int) == (free : Int)) = true := beq_self_eq_true _
  clear h5 h6 h8 k5 k6 k8 n1 n2 kf
  go_enter Tryd.func13, Tryd.ntmps13
  go_wp2_with fail
  (refine wp_region_later (by kernel_rfl) (by kernel_rfl) ?_; (repeat (go_big_quiet_step (((first | (go_at_call 50; with_reducible exact calls_later_if EW.out) | (go_at_call 51; with_reducible exact calls_later_if ES.out)))))); refine wpQuiet_nil ?_; intro w4 hw4; have hg := later_elim hw4; clear hw4)
  have HG := Lib.hid hg; clear hg
  go_wp2_with fail
  go_ret
  exact ⟨rfl, HG.out⟩
end Go.Proofs.YtffbhocgjpdjpaaDoor
