/- The law's fixed fact of layer 5. -/
import Derived.Test.YtfhkmbeokdfllaaMarkH
namespace Go.Proofs.Ytfhkmbeokdfllaa
open Go.RowKit
set_option linter.unusedVariables false
theorem checkC {k : Int} {n : Nat} (h0 : 0 ≤ k) (h1 : k ≤ 1) (hn : n ≤ 1048576) : checkZ ((4 : Nat) : Int) k n 0 = 0 := by
  rw [checkZ_ok]; exact ⟨by decide, by decide, by omega, by omega, by decide, h0, by omega⟩
theorem alloc_class (B h N : Nat) (S : Nat → Bool) (M : Nat → Nat) (w : World) (H : HeapAt w B h N 2 S M) (hB : B ≤ w.heap.size) :
    Calls Try.prog 8 #[.pointer (some ⟨h, 0, none⟩), .int .u64 4, .int .i64 0, .int .i64 0, .int .u64 1] w fun e w' => e = .returned (.tuple #[.int .u64 4, .int .i64 0]) ∧ (∃ S' M', HeapAt w' B h N 4 S' M' ∧ Chain 0 S' M') ∧ Below B w w' := by
  have hN : 16 ≤ N := by obtain ⟨g, s, -, -, -, h3, -⟩ := H; exact h3
  refine (alloc_slots B h N 2 4 0 1 0 S M w H hB (by omega) (checkC (by omega) (by omega) (by omega)) (by omega) (by omega) (by omega) (by omega)).mono ?_
  rintro e w' ⟨rfl, h1, h2⟩
  exact ⟨rfl, ⟨_, _, h1, chain_start N (by omega) S M⟩, h2⟩
theorem alloc_obj (B h N n : Nat) (S : Nat → Bool) (M : Nat → Nat) (w : World) (H : HeapAt w B h N (4 + 3 * n) S M) (hB : B ≤ w.heap.size) (hc : Chain n S M) (hN : 4 + 3 * (n + 1) ≤ N) :
    Calls Try.prog 8 #[.pointer (some ⟨h, 0, none⟩), .int .u64 4, .int .i64 1, .int .i64 1, .int .u64 ((if n = 0 then 1 else (1 + 3 * n) * 2 : Nat) : Int)] w fun e w' => e = .returned (.tuple #[.int .u64 ((4 + 3 * n : Nat) * 2 : Int), .int .i64 0]) ∧ (∃ S' M', HeapAt w' B h N (4 + 3 * (n + 1)) S' M' ∧ Chain (n + 1) S' M') ∧ Below B w w' := by
  have hN2 : N ≤ 16777216 := by obtain ⟨g, s, -, -, h3, -⟩ := H; exact h3
  refine (alloc_slots B h N (4 + 3 * n) 4 1 (if n = 0 then 1 else (1 + 3 * n) * 2) 1 S M w H hB (by omega) (checkC (by omega) (by omega) (by omega)) (by omega) (by split <;> omega) (by omega) (by omega)).mono ?_
  rintro e w' ⟨rfl, h1, h2⟩
  exact ⟨rfl, ⟨_, _, by rw [show 4 + 3 * (n + 1) = 4 + 3 * n + 2 + 1 by omega]; exact h1, chain_next N n S M hc (by omega)⟩, h2⟩
theorem alloc_side (B h N n fr : Nat) (S : Nat → Bool) (M : Nat → Nat) (w : World) (H : HeapAt w B h N fr S M) (hB : B ≤ w.heap.size) (hc : Chain n S M) (hf : 4 + 3 * n ≤ fr) (hN : fr + 3 ≤ N) :
    Calls Try.prog 8 #[.pointer (some ⟨h, 0, none⟩), .int .u64 4, .int .i64 1, .int .i64 1, .int .u64 1] w fun e w' => (∃ v, e = .returned v) ∧ (∃ S' M', HeapAt w' B h N (fr + 3) S' M' ∧ Chain n S' M') ∧ Below B w w' := by
  have hN2 : N ≤ 16777216 := by obtain ⟨g, s, -, -, h3, -⟩ := H; exact h3
  refine (alloc_slots B h N fr 4 1 1 1 S M w H hB (by omega) (checkC (by omega) (by omega) (by omega)) (by omega) (by omega) (by omega) (by omega)).mono ?_
  rintro e w' ⟨rfl, h1, h2⟩
  exact ⟨⟨_, rfl⟩, ⟨_, _, by rw [show fr + 3 = fr + 2 + 1 by omega]; exact h1, chain_keep N n fr 1 S M hc hf (by omega) _⟩, h2⟩
/-- all of a chain is reached, from a row of one word that was just laid -/
theorem reach_new (B0 h N free n x : Nat) (S : Nat → Bool) (M : Nat → Nat) (w : World) (H0 : HeapAt w B0 h N free S M) (hc : Chain n S M) (hn : 1 ≤ n) (hN : 4 + 3 * n ≤ N) (hx : x = lo n 0 * 2) :
    Calls Try.prog 18 #[.pointer (some ⟨h, 0, none⟩), .slice (some ⟨w.heap.size, 0, none⟩) 1 1] (w.alloc (.cells #[.int .u64 (x : Int)] 29)) fun e w' => ∃ b, e = .returned (.tuple #[.pointer (some ⟨b, 0, none⟩), .int .i64 ((2 + 3 * n : Nat) : Int), .int .i64 0]) ∧ BitsAt w' w.heap.size b N (Tc n (n + 1)) ∧ Below w.heap.size w w' := by
  have hb : Below w.heap.size w (w.alloc (.cells #[.int .u64 (x : Int)] 29)) := (Below.refl _ w).alloc (Nat.le_refl _) _
  have hcell : (w.alloc (.cells #[.int .u64 (x : Int)] 29)).cell? ⟨w.heap.size, 0, none⟩ = some (.int .u64 (x : Int)) := cellO (heap_alloc_new w _) 0
  refine (reach_chain B0 h N free n w.heap.size x S M _ (H0.later hb) hc hn hN hx hcell ?_).mono ?_
  · exact (Array.getElem?_eq_some_iff.1 (heap_alloc_new w _)).1
  · rintro e w' ⟨b, rfl, h1, h2⟩
    exact ⟨b, rfl, h1.mono hb.size, hb.trans (h2.mono hb.size)⟩
theorem below_all (B b n N : Nat) (w : World) (h : BitsAt w B b N (Tc n (n + 1))) (hn : 1 ≤ n) (hN : 4 + 3 * n ≤ N) :
    Calls Try.prog 20 #[.pointer (some ⟨b, 0, none⟩), .int .i64 (N : Int)] w fun e w' => e = .returned (.int .i64 ((n + 1 : Nat) : Int)) ∧ w' = w := by
  have h1 := below_any B b N (Tc n (n + 1)) (N : Int) w h
  rw [show clipN N (N : Int) = N by unfold clipN; omega, tc_cnt (by omega) (by omega) hn hN] at h1
  exact h1
set_option maxRecDepth 100000 in
theorem awake5 (w : World) : Calls Try.prog 17 #[] w fun e w' => e = .returned (.bool true) ∧ Below w.heap.size w w' := by
  have NW := Lib.hid (new_yes 40 (by omega) (by omega) w)
  go_enter Try.func17, Try.ntmps17
  go_wp2_with fail
  refine NW.out.mono ?_
  rintro e w1 ⟨h, rfl, hh, hg⟩
  have AL := Lib.hid (alloc_class _ h 40 _ _ w1 hh hg.size)
  have HG1 := Lib.hid hg; clear hh hg
  go_wp2_with fail
  refine AL.out.mono ?_
  rintro e w2 ⟨rfl, ⟨S2, M2, hh, hc⟩, hg⟩
  have HG2 := Lib.hid (HG1.out.trans hg)
  have AO := Lib.hid (alloc_obj _ h 40 0 S2 M2 w2 hh HG2.out.size hc (by omega))
  rw [if_pos rfl] at AO
  clear hh hg hc
  go_wp2_with fail
  refine AO.out.mono ?_
  rintro e w3 ⟨rfl, ⟨S3, M3, hh, hc⟩, hg⟩
  have HG3 := Lib.hid (HG2.out.trans hg)
  have AS := Lib.hid (alloc_side _ h 40 1 7 S3 M3 w3 hh HG3.out.size hc (by omega) (by omega))
  clear hh hg hc
  go_wp2_with fail
  refine AS.out.mono ?_
  rintro e w4 ⟨⟨v, rfl⟩, ⟨S4, M4, hh, hc⟩, hg⟩
  have HG4 := Lib.hid (HG3.out.trans hg)
  have HH4 := Lib.hid hh; have HC4 := Lib.hid hc
  clear hh hg hc
  have RE := Lib.hid (reach_new _ h 40 10 1 8 S4 M4 w4 HH4.out HC4.out (by omega) (by omega) (by decide))
  go_wp2_with fail
  refine RE.out.mono ?_
  rintro e w5 ⟨b, rfl, hb, hg⟩
  have HG5 := Lib.hid (HG4.out.trans (hg.mono HG4.out.size))
  have BL := Lib.hid (below_all _ b 1 40 w5 hb (by omega) (by omega))
  clear hb hg
  go_wp2_with fail
  refine BL.out.mono ?_
  rintro e w6 ⟨rfl, rfl⟩
  go_wp2_with fail
  go_ret
  exact ⟨rfl, HG5.out⟩
end Go.Proofs.Ytfhkmbeokdfllaa
