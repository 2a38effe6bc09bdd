/- Memory: a head is laid. -/
import Derived.Test.YtfhkmbeokdfllaaHeapA
import Derived.Test.YtfhkmbeokdfllaaHeadD
import Derived.Laws.IdiomCopy
namespace Go.Proofs.Ytfhkmbeokdfllaa
open Go.RowKit
set_option linter.unusedVariables false
theorem cellO {w : World} {g : Nat} {cs : Array Value} {t : TypeId} {fr : Nat × Nat} (h : w.heap[g]? = some (.cells cs t fr)) (i : Nat) : w.cell? ⟨g, i, none⟩ = cs[i]? := by simp [World.cell?, h]
def put2 (M : Nat → Nat) (at_ a b : Nat) : Nat → Nat := fun i => if i = at_ then a else if i = at_ + 1 then b else M i
set_option maxRecDepth 100000 in
theorem put_cells (B h N free at_ a b : Nat) (S : Nat → Bool) (M : Nat → Nat) (w : World) (H : HeapAt w B h N free S M) (hB : B ≤ w.heap.size) (ha : at_ + 2 ≤ N) (a1 : a < 18446744073709551616) (b1 : b < 18446744073709551616) :
    Calls Try.prog 25 #[.pointer (some ⟨h, 0, none⟩), .int .i64 (at_ : Int), .agg #[.int .u64 (a : Int), .int .u64 (b : Int)]] w fun e w' => e = .returned (.tuple #[]) ∧ HeapAt w' B h N free S (put2 M at_ a b) ∧ Below B w w' := by
  have HH := Lib.hid H
  obtain ⟨g, s, h1, h2, h3, h3', h4, h5, h6, h7, h8⟩ := H
  have hl := (Array.getElem?_eq_some_iff.1 h5).1
  have hlg := h6.lt
  have c0 : w.cell? ⟨h, 0, none⟩ = some (.slice (some ⟨g, 0, none⟩) N N) := by simp [World.cell?, h5]
  have k0 := h6.cell (i := at_) (by omega)
  have k1 := h6.cell (i := at_ + 1) (by omega)
  have f0 := h6.frozen at_
  have f1 := h6.frozen (at_ + 1)
  have HR := Lib.hid h6; have H5 := Lib.hid h5
  clear h5 h6
  have hcp : ∀ ty, (Builtin.copy_ #[50, 50] ty #[.slice (some ⟨g, at_, none⟩) (N - at_) (N - at_), .slice (some ⟨w.heap.size, 0, none⟩) 2 2]).run Try.prog (w.alloc (.cells #[.int .u64 (a : Int), .int .u64 (b : Int)] 57)).drew =
      .ok (goInt 2) ((w.alloc (.cells #[.int .u64 (a : Int), .int .u64 (b : Int)] 57)).drew.setCells g at_ [.int .u64 (a : Int), .int .u64 (b : Int)]) := fun ty =>
    run_copy_cells _ _ _ ty 29 g at_ (N - at_) (N - at_) ⟨w.heap.size, 0, none⟩ 2 2 [.int .u64 (a : Int), .int .u64 (b : Int)] Try.underlying50 (by kernel_rfl) (by show 2 = min 2 (N - at_); omega)
      (fun j v hj => by
        match j, hj with
        | 0, hj => simp at hj; subst hj; exact (cellO (heap_alloc_new w _) 0).trans rfl
        | 1, hj => simp at hj; subst hj; exact (cellO (heap_alloc_new w _) 1).trans rfl)
      (fun j hj => by
        match j, hj with
        | 0, _ => rw [show (w.alloc (.cells #[.int .u64 (a : Int), .int .u64 (b : Int)] 57)).drew.cell? ⟨g, at_ + 0, none⟩ = w.cell? ⟨g, at_, none⟩ from World.cell?_alloc_past _ g at_ hlg, k0]; rfl
        | 1, _ => rw [show (w.alloc (.cells #[.int .u64 (a : Int), .int .u64 (b : Int)] 57)).drew.cell? ⟨g, at_ + 1, none⟩ = w.cell? ⟨g, at_ + 1, none⟩ from World.cell?_alloc_past _ g (at_ + 1) hlg, k1]; rfl)
      (fun j hj => by
        have hr := (HR.out.alloc (.cells #[.int .u64 (a : Int), .int .u64 (b : Int)] 57)).drew
        exact hr.frozen _)
      (fun v hv => by simp at hv; rcases hv with rfl | rfl <;> rfl)
  have hne : ¬ N = at_ := by omega
  go_enter Try.func25, Try.ntmps25
  go_wp2_with fail
  go_region
  go_end0
  have hr1 := (((HR.out.alloc (.cells #[.int .u64 (a : Int), .int .u64 (b : Int)] 57)).drew).set at_ (.int .u64 (a : Int))).set (at_ + 1) (.int .u64 (b : Int))
  have hT : ∃ c fr, (w.alloc (.cells #[.int .u64 (a : Int), .int .u64 (b : Int)] 57)).drew.heap[g]? = some (.cells c 29 fr) := by
    obtain ⟨c, hc, -⟩ := (HR.out.alloc (.cells #[.int .u64 (a : Int), .int .u64 (b : Int)] 57)).drew; exact ⟨c, _, hc⟩
  have hT1 : ∃ c fr, ((w.alloc (.cells #[.int .u64 (a : Int), .int .u64 (b : Int)] 57)).drew.setCell ⟨g, at_, none⟩ (.int .u64 (a : Int))).heap[g]? = some (.cells c 29 fr) := by
    obtain ⟨c, hc, -⟩ := ((HR.out.alloc (.cells #[.int .u64 (a : Int), .int .u64 (b : Int)] 57)).drew).set at_ (.int .u64 (a : Int)); exact ⟨c, _, hc⟩
  have hk0 : KeepsBut 29 w (w.alloc (.cells #[.int .u64 (a : Int), .int .u64 (b : Int)] 57)).drew := KeepsBut.alloc _ _ _
  have hk := (hk0.setCell (a := ⟨g, at_, none⟩) (u := .int .u64 (a : Int)) hT).setCell (a := ⟨g, at_ + 1, none⟩) (u := .int .u64 (b : Int)) hT1
  refine ⟨rfl, ⟨g, s, h1, h2, h3, h3', h4, ?_, hr1.congr fun i hi => ?_, fun i => ?_, h8.keeps hk (by decide) (by decide)⟩, ?_⟩
  · exact (hk h _ _ _ H5.out (by decide)).trans H5.out
  · show (if i = at_ + 1 then _ else if i = at_ then _ else _) = _
    unfold put2
    by_cases e0 : i = at_
    · subst e0; rw [if_neg (by omega), if_pos rfl, if_pos rfl]
    · by_cases e1 : i = at_ + 1
      · rw [if_pos e1, if_neg e0, if_pos e1]
      · rw [if_neg e1, if_neg e0, if_neg e0, if_neg e1]
  · unfold put2; split
    · exact a1
    · split
      · exact b1
      · exact h7 i
  · exact ((((Below.refl _ w).alloc hB _).drew).setCell h2 _).setCell h2 _
end Go.Proofs.Ytfhkmbeokdfllaa
