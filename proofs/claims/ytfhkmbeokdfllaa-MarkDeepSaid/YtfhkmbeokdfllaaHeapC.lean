/- Memory: an object's place; what stands at a place; a word of it. -/
import Derived.Test.YtfhkmbeokdfllaaHeapB
import Derived.Laws.Cover3
namespace Go.Proofs.Ytfhkmbeokdfllaa
open Go.RowKit
set_option linter.unusedVariables false
set_option maxRecDepth 100000 in
theorem hat_yes (B h N free a : Nat) (S : Nat → Bool) (M : Nat → Nat) (w : World) (H : HeapAt w B h N free S M) (a0 : 1 ≤ a) (a1 : a < 16777216) :
    Calls Try.prog 28 #[.pointer (some ⟨h, 0, none⟩), .int .u64 (a * 2 : Int)] w fun e w' => e = .returned (.tuple #[.int .i64 (a : Int), .bool (S a)]) ∧ Below w.heap.size w w' := by
  obtain ⟨g, s, h1, h2, h3, h3', h4, h5, h6, h7, h8⟩ := H
  have hl := (Array.getElem?_eq_some_iff.1 h5).1
  have c2 : w.cell? ⟨h, 2, none⟩ = some (.pointer (some ⟨s, 0, none⟩)) := by simp [World.cell?, h5]
  have A := Lib.hid (at_yes ((a : Int) * 2) (by omega) (by omega) (by omega) w)
  rw [show (a : Int) * 2 / 2 = (a : Int) by omega] at A
  have HS := Lib.hid (has_any B s N S (a : Int) w h8)
  rw [show (decide (0 ≤ (a : Int)) && S (a : Int).toNat) = S a by simp] at HS
  generalize S a = sa at *
  clear h5 h6 h8
  go_enter Try.func28, Try.ntmps28
  go_wp2_with fail
  refine A.out.mono ?_
  rintro e w1 ⟨rfl, hw⟩
  subst hw
  go_wp2_with fail
  refine HS.out.mono ?_
  rintro e w2 ⟨rfl, hg⟩
  have HG := Lib.hid hg; clear hg
  go_wp2_with fail
  exact bodyPost_ret (v := .tuple #[.int .i64 (a : Int), .bool sa]) (by simp [results, Try.results28, go_sem]) rfl ⟨rfl, HG.out⟩
set_option maxRecDepth 100000 in
theorem hhas_yes (B h N free a : Nat) (S : Nat → Bool) (M : Nat → Nat) (w : World) (H : HeapAt w B h N free S M) (a0 : 1 ≤ a) (a1 : a < 16777216) :
    Calls Try.prog 11 #[.pointer (some ⟨h, 0, none⟩), .int .u64 (a * 2 : Int)] w fun e w' => e = .returned (.bool (S a)) ∧ Below w.heap.size w w' := by
  have A := Lib.hid (hat_yes B h N free a S M w H a0 a1)
  go_enter Try.func11, Try.ntmps11
  go_wp2_with fail
  refine A.out.mono ?_
  rintro e w2 ⟨rfl, hg⟩
  have HG := Lib.hid hg; clear hg
  go_wp2_with fail
  go_ret
  exact ⟨rfl, HG.out⟩
set_option maxRecDepth 100000 in
theorem hhead_yes (B h N free at_ : Nat) (S : Nat → Bool) (M : Nat → Nat) (w : World) (H : HeapAt w B h N free S M) (ha : at_ + 2 ≤ N) (hok : UnOK (M at_) (M (at_ + 1))) :
    Calls Try.prog 40 #[.pointer (some ⟨h, 0, none⟩), .int .i64 (at_ : Int)] w fun e w' => e = .returned (.agg #[.int .u64 (M at_ : Int), .int .i64 (hK (M (at_ + 1))), .int .i64 (hS (M (at_ + 1))), .int .u32 (hH (M (at_ + 1))), .bool (hM (M (at_ + 1)))]) ∧ Below w.heap.size w w' := by
  obtain ⟨g, s, h1, h2, h3, h3', h4, h5, h6, h7, h8⟩ := H
  have hl := (Array.getElem?_eq_some_iff.1 h5).1
  have hlg := h6.lt
  have c0 : w.cell? ⟨h, 0, none⟩ = some (.slice (some ⟨g, 0, none⟩) N N) := by simp [World.cell?, h5]
  have k0 := h6.cell (i := at_) (by omega)
  have k1 := h6.cell (i := at_ + 1) (by omega)
  have b0 := h7 at_
  have b1 := h7 (at_ + 1)
  have U := Lib.hid (fun W => unpack_yes (M at_) (M (at_ + 1)) (by omega) (by omega) (by omega) (by omega) hok W)
  clear h5 h6 h8 hok
  generalize hK (M (at_ + 1)) = vk at *
  generalize hS (M (at_ + 1)) = vs at *
  generalize hH (M (at_ + 1)) = vh at *
  generalize hM (M (at_ + 1)) = vm at *
  have har : ∀ W : World, (Instr.arrayAt 57 (.slice (some ⟨g, at_, none⟩) 2 (N - at_))).run Try.prog W = .ok (.pointer (some ⟨g, at_, none⟩)) W := fun W => run_arrayAt W 57 29 2 _ _ _ Try.underlying57 (Nat.le_refl _)
  go_enter Try.func40, Try.ntmps40
  go_wp2_with fail
  refine (U.out _).mono ?_
  rintro e w1 ⟨rfl, hg⟩
  have hsz := hg.size
  simp at hsz
  have hlw : w.heap.size < w1.heap.size := by omega
  have hgx := Lib.hid hg
  have HG := Lib.hid (((Below.refl _ w).alloc (Nat.le_refl _) _).trans (hg.mono (by simp)) : Below w.heap.size w w1)
  have hcz : w1.heap[w.heap.size]? = some (.cells #[.int .u64 0, .int .i64 0, .int .i64 0, .int .u32 0, .bool false] 56 (0, 0)) := by
    rw [hg.block w.heap.size (by simp)]; exact heap_alloc_new w _
  have z0 : w1.cell? ⟨w.heap.size, 0, none⟩ = _ := cellO hcz 0
  have z1 : w1.cell? ⟨w.heap.size, 1, none⟩ = _ := cellO hcz 1
  have z2 : w1.cell? ⟨w.heap.size, 2, none⟩ = _ := cellO hcz 2
  have z3 : w1.cell? ⟨w.heap.size, 3, none⟩ = _ := cellO hcz 3
  have z4 : w1.cell? ⟨w.heap.size, 4, none⟩ = _ := cellO hcz 4
  have y : ∀ j, w1.frozen? ⟨w.heap.size, j, none⟩ = false := fun j => by unfold World.frozen?; rw [hcz]; cases j <;> rfl
  simp at z0 z1 z2 z3 z4
  clear hg hcz
  go_wp2_with fail
  refine bodyPost_ret (v := .agg #[.int .u64 (M at_ : Int), .int .i64 vk, .int .i64 vs, .int .u32 vh, .bool vm]) (by simp [results, Try.results40, go_sem, z0, z1, z2, z3, z4, hlw]) rfl ⟨rfl, ?_⟩
  have hb := HG.out
  repeat (first | with_reducible exact Below.refl _ _ | ((with_reducible refine Below.setCell ?_ ?_ _); rotate_left; focus (first | (simp; done) | (simp; omega) | omega)) | ((with_reducible refine Below.alloc ?_ ?_ _); rotate_left; focus (first | (simp; done) | (simp; omega) | omega)) | (with_reducible refine Below.drew ?_) | ((with_reducible refine Below.trans ?_ (Below.mono hb ?_)); rotate_left; focus (first | (simp; done) | (simp; omega) | omega)))
end Go.Proofs.Ytfhkmbeokdfllaa
