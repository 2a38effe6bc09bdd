/- Memory: another word. -/
import Derived.Test.YtobajnodckiohaaDoorHeapT
namespace Go.Proofs.YtobajnodckiohaaDoor
open Go.RowKit
set_option linter.unusedVariables false
set_option maxRecDepth 100000 in
theorem hput_yes (B h N free a i x : Nat) (S : Nat → Bool) (M : Nat → Nat) (w : World) (H : HeapAt w B h N free S M) (hB : B ≤ w.heap.size) (a0 : 1 ≤ a) (ha : a + 2 + i < N) (hS' : S a = true) (hok : UnOK (M a) (M (a + 1))) (hk : hK (M (a + 1)) ≠ 2) (hi : (i : Int) < hS (M (a + 1))) (hx : x < 18446744073709551616) :
    Calls Tryd.prog 19 #[.pointer (some ⟨h, 0, none⟩), .int .u64 (a * 2 : Int), .int .i64 (i : Int), .int .u64 (x : Int)] w fun e w' => e = .returned (.int .i64 0) ∧ HeapAt w' B h N free S (fun j => if j = a + 2 + i then x else M j) ∧ Below B w w' ∧ Stays h w w' := by
  have F := Lib.hid (find_slot B h N free a i S M w H a0 (by omega) hS' hok hk hi)
  have HH := Lib.hid H
  obtain ⟨q, hq⟩ : ∃ q, a + 2 + i = q := ⟨_, rfl⟩
  rw [hq] at F ha ⊢
  clear H hok hk hi hS'
  go_enter Tryd.func19, Tryd.ntmps19
  go_wp2_with fail
  refine F.out.mono ?_
  rintro e w1 ⟨rfl, hg⟩
  have h1 := HH.out.later hg
  obtain ⟨g, g0, gB, gl, hl, gc, gf, gset⟩ := h1.store q ha
  have HS := Lib.hid (gset x hx)
  have HBS := Lib.hid ((hg.mono hB).setCell (p := ⟨g, q, none⟩) gB (.int .u64 (x : Int)))
  have HTS := Lib.hid ((Stays.below hg).trans (Stays.setG (i := q) (v := .int .u64 (x : Int)) g0))
  clear h1 gset hg hq
  go_wp2_with fail
  all_goals (try (exfalso; go_light; omega))
  go_ret
  exact ⟨rfl, HS.out, HBS.out, HTS.out⟩
end Go.Proofs.YtobajnodckiohaaDoor
