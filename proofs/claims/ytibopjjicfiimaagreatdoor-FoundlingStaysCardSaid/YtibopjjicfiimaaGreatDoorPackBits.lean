/- Sets of bits: the program's, in memory. -/
import Derived.Test.YtibopjjicfiimaaGreatDoorPackCrc
import Derived.Test.YtibopjjicfiimaaGreatDoorTz
import Derived.Deep.OwnRows
namespace Go.Proofs.YtibopjjicfiimaaGreatDoor
open Go.RowKit
/-- a set of bits of the call's own: numbers below n, those that S says -/
def BitsAt (w : World) (B b n : Nat) (S : Nat → Bool) : Prop :=
  ∃ (g cap m : Nat) (ws : Nat → Nat) (f : Nat → Value), B ≤ b ∧ B ≤ g ∧ b ≠ g ∧ n ≤ 16777216 ∧ w.heap[b]? = some (.cells #[.int .i64 (n : Int), .slice (some ⟨g, 0, none⟩) ((n + 63) / 64) cap] 138 (0, 0)) ∧
    (n + 63) / 64 ≤ cap ∧ cap ≤ maxLen ∧ w.rowIs g 30 m f ∧ (n + 63) / 64 ≤ m ∧ (∀ i, i < (n + 63) / 64 → f i = .int .u64 (ws i : Int) ∧ ws i < 18446744073709551616 ∧ ∀ j, j < 64 → (ws i).testBit j = S (64 * i + j)) ∧ ∀ k, n ≤ k → S k = false
theorem wordInfo : (Tryz.prog.info? 30).map (fun i => (i.zero, i.size, i.bytes)) = some (some (.int .u64 0), 1, 8) := by kernel_rfl
/-- how many there may be -/
def sizeZ (n : Int) : Nat := (max 0 (min n 16777216)).toNat
theorem bits_new (W : World) (n : Nat) (hn : n ≤ 16777216) :
    BitsAt ((W.alloc (.cells (madeCells #[.int .u64 0] ((n + 63) / 64)) 30)).alloc (.cells #[.int .i64 (n : Int), .slice (some ⟨W.heap.size, 0, none⟩) ((n + 63) / 64) ((n + 63) / 64)] 138)) W.heap.size (W.heap.size + 1) n (fun _ => false) := by
  refine ⟨W.heap.size, (n + 63) / 64, (n + 63) / 64, fun _ => 0, fun _ => .int .u64 0, by omega, Nat.le_refl _, by omega, hn, ?_, Nat.le_refl _, by unfold maxLen; omega, (World.rowIs_made W _ _ _).alloc _, Nat.le_refl _, fun i _ => ⟨rfl, (show 0 < 18446744073709551616 by omega), fun j _ => (show Nat.testBit 0 j = false from Nat.zero_testBit j)⟩, fun _ _ => rfl⟩
  have h := heap_alloc_new (W.alloc (.cells (madeCells #[.int .u64 0] ((n + 63) / 64)) 30)) (.cells #[.int .i64 (n : Int), .slice (some ⟨W.heap.size, 0, none⟩) ((n + 63) / 64) ((n + 63) / 64)] 138)
  simpa using h
set_option maxRecDepth 100000 in
theorem newBits_any (n : Int) (w : World) :
    Calls Tryz.prog 83 #[.int .i64 n] w fun e w' => e = .returned (.pointer (some ⟨w.heap.size + 1, 0, none⟩)) ∧ BitsAt w' w.heap.size (w.heap.size + 1) (sizeZ n) (fun _ => false) ∧ Below w.heap.size w w' := by
  have hm : ∀ k, k ≤ 16777216 → ∀ W, (Instr.makeSlice 56 (.int .i64 (((k + 63) / 64 : Nat) : Int)) (.int .i64 (((k + 63) / 64 : Nat) : Int))).run Tryz.prog W = .ok (.slice (some ⟨W.heap.size, 0, none⟩) ((k + 63) / 64) ((k + 63) / 64)) (W.alloc (.cells (madeCells #[.int .u64 0] ((k + 63) / 64)) 30)) :=
    fun k hk W => run_make_row' 56 30 (.int .u64 0) 8 Tryz.underlying56 wordInfo rfl .i64 .i64 _ (by omega) (by omega) W
  by_cases h0 : n ≤ 0
  · have hs : sizeZ n = 0 := by unfold sizeZ; omega
    have hb := bits_new w 0 (by omega)
    have hm0 := hm 0 (by omega)
    simp only [Nat.zero_add, Nat.reduceDiv, Int.cast_ofNat_Int] at hm0
    have HB := Lib.hid hb; clear hm hb
    rw [hs]; clear hs
    go_enter Tryz.func83, Tryz.ntmps83
    go_wp2_with fail
    go_ret
    refine ⟨rfl, HB.out, ?_⟩
    repeat (first | with_reducible exact Below.refl _ _ | ((with_reducible refine Below.setCell ?_ ?_ _); rotate_left; focus (first | (simp; done) | (simp; omega) | omega)) | ((with_reducible refine Below.alloc ?_ ?_ _); rotate_left; focus (first | (simp; done) | (simp; omega) | omega)) | (with_reducible refine Below.drew ?_))
  · by_cases h1 : n ≤ 16777216
    · obtain ⟨k, rfl⟩ : ∃ k : Nat, n = k := ⟨n.toNat, by omega⟩
      have hs : sizeZ k = k := by unfold sizeZ; omega
      have hb := bits_new w k (by omega)
      have hmk : ∀ W, (Instr.makeSlice 56 (.int .i64 (((k : Int) + 64 - 1) / 64)) (.int .i64 (((k : Int) + 64 - 1) / 64))).run Tryz.prog W = .ok (.slice (some ⟨W.heap.size, 0, none⟩) ((k + 63) / 64) ((k + 63) / 64)) (W.alloc (.cells (madeCells #[.int .u64 0] ((k + 63) / 64)) 30)) := fun W => by
        rw [show ((k : Int) + 64 - 1) / 64 = (((k + 63) / 64 : Nat) : Int) by omega]; exact hm k (by omega) W
      have HB := Lib.hid hb; clear hm hb
      rw [hs]; clear hs
      go_enter Tryz.func83, Tryz.ntmps83
      go_wp2_with fail
      go_ret
      refine ⟨rfl, HB.out, ?_⟩
      repeat (first | with_reducible exact Below.refl _ _ | ((with_reducible refine Below.setCell ?_ ?_ _); rotate_left; focus (first | (simp; done) | (simp; omega) | omega)) | ((with_reducible refine Below.alloc ?_ ?_ _); rotate_left; focus (first | (simp; done) | (simp; omega) | omega)) | (with_reducible refine Below.drew ?_))
    · have hs : sizeZ n = 16777216 := by unfold sizeZ; omega
      have hb := bits_new w 16777216 (by omega)
      have hm0 := hm 16777216 (by omega)
      simp only [Nat.reduceAdd, Nat.reduceDiv, Int.cast_ofNat_Int] at hm0
      have HB := Lib.hid hb; clear hm hb
      rw [hs]; clear hs
      go_enter Tryz.func83, Tryz.ntmps83
      go_wp2_with fail
      go_ret
      refine ⟨rfl, HB.out, ?_⟩
      repeat (first | with_reducible exact Below.refl _ _ | ((with_reducible refine Below.setCell ?_ ?_ _); rotate_left; focus (first | (simp; done) | (simp; omega) | omega)) | ((with_reducible refine Below.alloc ?_ ?_ _); rotate_left; focus (first | (simp; done) | (simp; omega) | omega)) | (with_reducible refine Below.drew ?_))
end Go.Proofs.YtibopjjicfiimaaGreatDoor
