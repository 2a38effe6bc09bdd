/- Memory as the program has it: a new one; how much is used and free. -/
import Derived.Test.YtfhkmbeokdfllaaHeadB
import Derived.Test.YtfhkmbeokdfllaaPackHas
import Derived.Deep.RegionWith
namespace Go.Proofs.Ytfhkmbeokdfllaa
open Go.RowKit
set_option linter.unusedVariables false
theorem BitsAt.keeps {w w' : World} {B b n : Nat} {S : Nat → Bool} {T : TypeId} (h : BitsAt w B b n S) (hk : KeepsBut T w w') (h1 : 78 ≠ T) (h2 : 28 ≠ T) : BitsAt w' B b n S := by
  obtain ⟨g', cap, m, ws, f, k1, k2, k3, k4, k5, k6, k7, k8, k9⟩ := h
  exact ⟨g', cap, m, ws, f, k1, k2, k3, k4, by rw [hk b _ _ _ k5 h1]; exact k5, k6, k7, hk.row k8 h2, k9⟩
theorem cellInfo : (Try.prog.info? 29).map (fun i => (i.zero, i.size, i.bytes)) = some (some (.int .u64 0), 1, 8) := by kernel_rfl
/-- memory of the call's own: n cells, what they hold, the first free one, where objects begin -/
def HeapAt (w : World) (B h N free : Nat) (S : Nat → Bool) (M : Nat → Nat) : Prop :=
  ∃ g s, B ≤ h ∧ B ≤ g ∧ N ≤ 16777216 ∧ 16 ≤ N ∧ free ≤ N ∧ w.heap[h]? = some (.cells #[.slice (some ⟨g, 0, none⟩) N N, .int .i64 (free : Int), .pointer (some ⟨s, 0, none⟩), .int .u32 0] 54 (0, 0)) ∧
    w.rowIs g 29 N (fun i => .int .u64 (M i : Int)) ∧ (∀ i, M i < 18446744073709551616) ∧ BitsAt w B s N S
theorem HeapAt.later {w w' : World} {B h N free : Nat} {S : Nat → Bool} {M : Nat → Nat} (H : HeapAt w B h N free S M) (hb : Below w.heap.size w w') : HeapAt w' B h N free S M := by
  obtain ⟨g, s, h1, h2, h3, h3', h4, h5, h6, h7, h8⟩ := H
  exact ⟨g, s, h1, h2, h3, h3', h4, by rw [hb.block h (Array.getElem?_eq_some_iff.1 h5).1]; exact h5, h6.of_block (hb.block g h6.lt), h7, h8.later hb⟩
set_option maxRecDepth 100000 in
theorem new_no (n : Int) (hn : n < 16 ∨ 16777216 < n) (w : World) :
    Calls Try.prog 7 #[.int .i64 n] w fun e w' => e = .returned (.tuple #[.pointer none, .int .i64 2]) ∧ w' = w := by
  go_enter Try.func7, Try.ntmps7
  go_wp2_with fail
  all_goals (try (exfalso; go_light; omega))
  all_goals exact bodyPost_ret (v := .tuple #[.pointer none, .int .i64 2]) (by simp [results, Try.results7, go_sem]) rfl ⟨rfl, rfl⟩
set_option maxRecDepth 100000 in
theorem new_yes (N : Nat) (h0 : 16 ≤ N) (h1 : N ≤ 16777216) (w : World) :
    Calls Try.prog 7 #[.int .i64 (N : Int)] w fun e w' => ∃ h, e = .returned (.tuple #[.pointer (some ⟨h, 0, none⟩), .int .i64 0]) ∧ HeapAt w' w.heap.size h N 2 (fun _ => false) (fun _ => 0) ∧ Below w.heap.size w w' := by
  have hmk : ∀ W, (Instr.makeSlice 50 (.int .i64 (N : Int)) (.int .i64 (N : Int))).run Try.prog W = .ok (.slice (some ⟨W.heap.size, 0, none⟩) N N) (W.alloc (.cells (madeCells #[.int .u64 0] N) 29)) :=
    fun W => run_make_row' (P := Try.prog) 50 29 (.int .u64 0) 8 Try.underlying50 cellInfo rfl .i64 .i64 N (by omega) (by omega) W
  have hsz : sizeZ (N : Int) = N := by unfold sizeZ; omega
  have NB := Lib.hid (fun W => newBits_any (N : Int) W)
  rw [hsz] at NB
  clear hsz
  have q1 : ¬ (N : Int) < 16 := by omega
  have q2 : ¬ (16777216 : Int) < N := by omega
  go_enter Try.func7, Try.ntmps7
  go_wp2_with fail
  all_goals (try (exfalso; go_light; omega))
  go_region_with (go_at_call 22; refine (NB.out _).mono ?_; rintro e w1 ⟨rfl, hb, hg⟩; have HB := Lib.hid hb; have HG := Lib.hid hg; clear hb hg)
  · have hr : w1.rowIs w.heap.size 29 N (fun _ => .int .u64 0) := (World.rowIs_made w.drew (.int .u64 0) N 29).of_block (HG.out.block w.heap.size (by simp))
    have hb1 : Below w.heap.size w w1 := ((Below.refl _ w).drew.alloc (Nat.le_refl _) _).trans (HG.out.mono (by simp))
    have hb0 : BitsAt w1 w.heap.size (w.heap.size + 1 + 1) N (fun _ => false) := by
      have := HB.out.mono (C := w.heap.size) (by simp)
      simpa using this
    have hbb := hb0.later ((Below.refl _ w1).alloc (Nat.le_refl _) (.cells #[.slice (some ⟨w.heap.size, 0, none⟩) N N, .int .i64 2, .pointer (some ⟨w.heap.size + 1 + 1, 0, none⟩), .int .u32 0] 54))
    have hz := hb1.size
    have HR := Lib.hid hr; have HB1 := Lib.hid hb1; have HBB := Lib.hid hbb; clear hr hb1 hbb
    go_wp2_with fail
    refine bodyPost_ret (v := .tuple #[.pointer (some ⟨w1.heap.size, 0, none⟩), .int .i64 0]) (by simp [results, Try.results7, go_sem]) rfl ⟨_, rfl, ⟨w.heap.size, _, hz, Nat.le_refl _, h1, h0, by omega, heap_alloc_new w1 _, HR.out.alloc _, fun _ => (show 0 < 18446744073709551616 by omega), HBB.out⟩, HB1.out.alloc hz _⟩
  · have hb1 : Below w.heap.size w w1 := (Below.refl _ w).drew.trans HG.out
    have hz := hb1.size
    have hr : (w1.alloc (.cells (madeCells #[.int .u64 0] N) 29)).rowIs w1.heap.size 29 N (fun _ => .int .u64 0) := World.rowIs_made w1 (.int .u64 0) N 29
    have hbb := (HB.out.later ((Below.refl _ w1).alloc (Nat.le_refl _) (.cells (madeCells #[.int .u64 0] N) 29))).later ((Below.refl _ _).alloc (Nat.le_refl _) (.cells #[.slice (some ⟨w1.heap.size, 0, none⟩) N N, .int .i64 2, .pointer (some ⟨w.heap.size + 1, 0, none⟩), .int .u32 0] 54))
    have HR := Lib.hid hr; have HB1 := Lib.hid hb1; have HBB := Lib.hid hbb; clear hr hb1 hbb
    go_wp2_with fail
    refine bodyPost_ret (v := .tuple #[.pointer (some ⟨w1.heap.size + 1, 0, none⟩), .int .i64 0]) (by simp [results, Try.results7, go_sem]) rfl ⟨_, rfl, ⟨w1.heap.size, _, by omega, hz, h1, h0, by omega, ?_, HR.out.alloc _, fun _ => (show 0 < 18446744073709551616 by omega), HBB.out⟩, ?_⟩
    · have := heap_alloc_new (w1.alloc (.cells (madeCells #[.int .u64 0] N) 29)) (.cells #[.slice (some ⟨w1.heap.size, 0, none⟩) N N, .int .i64 2, .pointer (some ⟨w.heap.size + 1, 0, none⟩), .int .u32 0] 54)
      rw [show (w1.alloc (.cells (madeCells #[.int .u64 0] N) 29)).heap.size = w1.heap.size + 1 from by simp] at this
      exact this
    · exact (HB1.out.alloc hz _).alloc (by simp; omega) _
set_option maxRecDepth 100000 in
theorem free_any (B h N free : Nat) (S : Nat → Bool) (M : Nat → Nat) (w : World) (H : HeapAt w B h N free S M) :
    Calls Try.prog 9 #[.pointer (some ⟨h, 0, none⟩)] w fun e w' => e = .returned (.int .i64 ((N - free : Nat) : Int)) ∧ Below w.heap.size w w' := by
  obtain ⟨g, s, h1, h2, h3, h3', h4, h5, -⟩ := H
  have hl := (Array.getElem?_eq_some_iff.1 h5).1
  have c0 : w.cell? ⟨h, 0, none⟩ = some (.slice (some ⟨g, 0, none⟩) N N) := by simp [World.cell?, h5]
  have c1 : w.cell? ⟨h, 1, none⟩ = some (.int .i64 (free : Int)) := by simp [World.cell?, h5]
  clear h5
  go_enter Try.func9, Try.ntmps9
  go_wp2_with fail
  (refine wp_region_later (by kernel_rfl) (by kernel_rfl) ?_; (repeat (go_big_quiet_step ((fail)))); refine wpQuiet_nil ?_; intro w4 hw4; have hg := later_elim hw4; clear hw4)
  have HG := Lib.hid hg; clear hg
  go_wp2_with fail
  go_ret
  exact ⟨ret_int (by omega), HG.out⟩
theorem used_any (B h N free : Nat) (S : Nat → Bool) (M : Nat → Nat) (w : World) (H : HeapAt w B h N free S M) :
    Calls Try.prog 10 #[.pointer (some ⟨h, 0, none⟩)] w fun e w' => e = .returned (.int .i64 (free : Int)) ∧ w' = w := by
  obtain ⟨g, s, h1, h2, h3, h3', h4, h5, -⟩ := H
  have c1 : w.cell? ⟨h, 1, none⟩ = some (.int .i64 (free : Int)) := by simp [World.cell?, h5]
  clear h5
  go_enter Try.func10, Try.ntmps10
  go_wp2_with fail
  go_ret
  exact ⟨rfl, rfl⟩
end Go.Proofs.Ytfhkmbeokdfllaa
