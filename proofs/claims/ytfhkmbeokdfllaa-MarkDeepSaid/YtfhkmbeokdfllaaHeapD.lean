/- Memory: a word of an object; a new object. -/
import Derived.Test.YtfhkmbeokdfllaaHeapC
namespace Go.Proofs.Ytfhkmbeokdfllaa
open Go.RowKit
set_option linter.unusedVariables false
set_option maxRecDepth 100000 in
theorem find_slot (B h N free a i : Nat) (S : Nat → Bool) (M : Nat → Nat) (w : World) (H : HeapAt w B h N free S M) (a0 : 1 ≤ a) (ha : a + 2 ≤ N) (hS' : S a = true) (hok : UnOK (M a) (M (a + 1))) (hk : hK (M (a + 1)) ≠ 2) (hi : (i : Int) < hS (M (a + 1))) :
    Calls Try.prog 29 #[.pointer (some ⟨h, 0, none⟩), .int .u64 (a * 2 : Int), .int .i64 (i : Int), .bool false] w fun e w' => e = .returned (.tuple #[.int .i64 ((a + 2 + i : Nat) : Int), .int .i64 0]) ∧ Below w.heap.size w w' := by
  have hN : N ≤ 16777216 := by obtain ⟨g, s, -, -, h3, -⟩ := H; exact h3
  have A := Lib.hid (hat_yes B h N free a S M w H a0 (by omega))
  rw [hS'] at A
  have HD := Lib.hid (fun W (hW : Below w.heap.size w W) => hhead_yes B h N free a S M W (H.later hW) ha hok)
  have hlim : hS (M (a + 1)) ≤ 1048576 := hok.2.2.1
  have q1 : (hK (M (a + 1)) == 2) = false := by rw [beq_eq_false_iff_ne]; exact hk
  clear H hok
  generalize hK (M (a + 1)) = vk at *
  generalize hS (M (a + 1)) = vs at *
  generalize hH (M (a + 1)) = vh at *
  generalize hM (M (a + 1)) = vm at *
  go_enter Try.func29, Try.ntmps29
  go_wp2_with fail
  refine A.out.mono ?_
  rintro e w1 ⟨rfl, hg1⟩
  have HG1 := Lib.hid hg1; clear hg1
  go_wp2_with fail
  refine (HD.out w1 HG1.out).mono ?_
  rintro e w2 ⟨rfl, hg2⟩
  have HG2 := Lib.hid (HG1.out.trans (hg2.mono HG1.out.size)); clear hg2
  go_wp2_with fail
  all_goals (try (exfalso; go_light; omega))
  refine bodyPost_ret (v := .tuple #[.int .i64 ((a + 2 + i : Nat) : Int), .int .i64 0]) (by simp [results, Try.results29, go_sem]) rfl ⟨rfl, ?_⟩
  exact HG2.out.alloc HG2.out.size _
set_option maxRecDepth 100000 in
theorem hget_yes (B h N free a i : Nat) (S : Nat → Bool) (M : Nat → Nat) (w : World) (H : HeapAt w B h N free S M) (a0 : 1 ≤ a) (ha : a + 2 + i < N) (hS' : S a = true) (hok : UnOK (M a) (M (a + 1))) (hk : hK (M (a + 1)) ≠ 2) (hi : (i : Int) < hS (M (a + 1))) :
    Calls Try.prog 15 #[.pointer (some ⟨h, 0, none⟩), .int .u64 (a * 2 : Int), .int .i64 (i : Int)] w fun e w' => e = .returned (.tuple #[.int .u64 (M (a + 2 + i) : Int), .int .i64 0]) ∧ Below w.heap.size w w' := by
  have F := Lib.hid (find_slot B h N free a i S M w H a0 (by omega) hS' hok hk hi)
  obtain ⟨g, s, h1, h2, h3, h3', h4, h5, h6, h7, h8⟩ := H
  have hl := (Array.getElem?_eq_some_iff.1 h5).1
  have hlg := h6.lt
  have c0 : w.cell? ⟨h, 0, none⟩ = some (.slice (some ⟨g, 0, none⟩) N N) := by simp [World.cell?, h5]
  have k0 := h6.cell (i := a + 2 + i) ha
  clear h5 h6 h8 hok hS' hk hi
  generalize hq : a + 2 + i = q at *
  clear hq
  go_enter Try.func15, Try.ntmps15
  go_wp2_with fail
  refine F.out.mono ?_
  rintro e w1 ⟨rfl, hg⟩
  have c0' : w1.cell? ⟨h, 0, none⟩ = _ := (hg.cell (p := ⟨h, 0, none⟩) hl).trans c0
  have k0' : w1.cell? ⟨g, q, none⟩ = _ := (hg.cell (p := ⟨g, q, none⟩) hlg).trans k0
  have HG := Lib.hid hg; clear hg c0 k0
  go_wp2_with fail
  exact bodyPost_ret (v := .tuple #[.int .u64 (M q : Int), .int .i64 0]) (by simp [results, Try.results15, go_sem]) rfl ⟨rfl, HG.out⟩
end Go.Proofs.Ytfhkmbeokdfllaa
