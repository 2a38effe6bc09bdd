/- The deferred closure of Resolve, in a frame that returns and in one that panics. -/
import Derived.Test.YtpfgidhchjcomaaMeRead
import Derived.Defers
import Derived.Recover
namespace Go.Proofs.Ytpfgidhchjcomaa
open Go.RowKit
set_option maxRecDepth 100000 in
set_option maxHeartbeats 1000000 in
theorem idle_any (p q r : Addr) (w : World) : CallsD Try.prog 11 #[.pointer (some p), .pointer (some q), .pointer (some r)] .returning w fun e u' w' => e = .returned (.tuple #[]) ∧ u' = .returning ∧ w' = w := by
  refine callsD_of_wpS Try.func11 rfl fun c₀ cs hu => ?_
  simp only [Try.ntmps11, List.size_toArray, List.length_cons, List.length_nil, Nat.reduceAdd, Nat.reduceSub, Array.replicate_succ,
     Array.replicate_zero, List.push_toArray, List.append_toArray, List.nil_append, List.cons_append]
  apply wpS_seq
  generalize hq : Exit.thenS _ _ = Q
  apply wpS_region
  simp [wpOpsS, go_sem, recoverD, hu]
  subst hq
  show Code.wpS _ _ _ _ _ _
  refine wpS_of_wp ?_
  go_wp2
  cases c₀
  cases hu
  exact ⟨rfl, _, rfl, _, results_none rfl _ _ _, rfl, rfl, rfl⟩
theorem assert_fault (W : World) (v : Value) : (Instr.typeAssert (.iface 52 v) 20 52 true).run Try.prog W = .ok (.tuple #[v, .bool true]) W := by kernel_rfl
set_option maxRecDepth 100000 in
set_option maxHeartbeats 1000000 in
theorem catch_any (B P1 : Nat) (c0 c1 c2 c3 c4 x0 y0 : Value) (at_ e' : Int) (w : World) (older : List PanicEntry)
    (h1 : w.heap[P1]? = some (.cells #[c0, c1, c2, c3, c4] 35 (0, 0))) (h2 : w.heap[P1 + 1]? = some (.cells #[x0] 3 (0, 0))) (h3 : w.heap[P1 + 1 + 1]? = some (.cells #[y0] 36 (0, 0))) (hB : B ≤ P1) :
    CallsD Try.prog 11 #[.pointer (some ⟨P1, 0, none⟩), .pointer (some ⟨P1 + 1, 0, none⟩), .pointer (some ⟨P1 + 1 + 1, 0, none⟩)] (.panicking ({ v := .iface 52 (.agg #[.int .i64 at_, .int .i64 e']), recovered := false } :: older)) w fun e u' w' =>
      e = .returned (.tuple #[]) ∧ u' = .panicking ({ v := .iface 52 (.agg #[.int .i64 at_, .int .i64 e']), recovered := true } :: older) ∧ w'.heap[P1]? = some (.cells #[.string ⟨#[]⟩, .int .i64 0, .int .i64 0, .int .i64 0, .slice none 0 0] 35 (0, 0)) ∧ w'.cell? ⟨P1 + 1, 0, none⟩ = some (.int .i64 at_) ∧ w'.cell? ⟨P1 + 1 + 1, 0, none⟩ = some (.int .i64 e') ∧ Below B w w' := by
  have f1 : ∀ j, w.frozen? ⟨P1, j, none⟩ = false := (by intro j; unfold World.frozen?; rw [h1]; simp)
  have f2 : w.frozen? ⟨P1 + 1, 0, none⟩ = false := (by unfold World.frozen?; rw [h2]; simp)
  have f3 : w.frozen? ⟨P1 + 1 + 1, 0, none⟩ = false := (by unfold World.frozen?; rw [h3]; simp)
  have hP : P1 + 1 + 1 < w.heap.size := by
    rcases Nat.lt_or_ge (P1 + 1 + 1) w.heap.size with h | h
    · exact h
    · rw [Array.getElem?_eq_none h] at h3; cases h3
  have hP0 : P1 < w.heap.size := by omega
  have hP1 : P1 + 1 < w.heap.size := by omega
  have k0 := cell_of_row w P1 0 _ _ _ h1
  have k1 := cell_of_row w P1 1 _ _ _ h1
  have k2 := cell_of_row w P1 2 _ _ _ h1
  have k3 := cell_of_row w P1 3 _ _ _ h1
  have k4 := cell_of_row w P1 4 _ _ _ h1
  have g2 := cell_of_row w (P1 + 1) 0 _ _ _ h2
  have g3 := cell_of_row w (P1 + 1 + 1) 0 _ _ _ h3
  simp at k0 k1 k2 k3 k4 g2 g3
  have H1 := Lib.hid h1
  have H2 := Lib.hid h2
  have H3 := Lib.hid h3
  clear h1 h2 h3
  have hta := assert_fault w (.agg #[.int .i64 at_, .int .i64 e'])
  refine callsD_of_wpS Try.func11 rfl fun c₀ cs hu => ?_
  simp only [Try.ntmps11, List.size_toArray, List.length_cons, List.length_nil, Nat.reduceAdd, Nat.reduceSub, Array.replicate_succ,
     Array.replicate_zero, List.push_toArray, List.append_toArray, List.nil_append, List.cons_append]
  apply wpS_seq
  generalize hq : Exit.thenS _ _ = Q
  apply wpS_region
  simp [wpOpsS, go_sem, recoverD, hu]
  subst hq
  show Code.wpS _ _ _ _ _ _
  refine wpS_of_wp ?_
  go_upto_region 7 with fail
  go_wp2_with fail
  go_region
  have x1 : (((((((w.setCell ⟨P1, 0, none⟩ (.string ⟨#[]⟩)).setCell ⟨P1, 1, none⟩ (.int .i64 0)).setCell ⟨P1, 2, none⟩ (.int .i64 0)).setCell ⟨P1, 3, none⟩ (.int .i64 0)).setCell ⟨P1, 4, none⟩ (.slice none 0 0)).setCell ⟨P1 + 1, 0, none⟩ (.int .i64 at_)).setCell ⟨P1 + 1 + 1, 0, none⟩ (.int .i64 e')).heap[P1]? = some (.cells #[.string ⟨#[]⟩, .int .i64 0, .int .i64 0, .int .i64 0, .slice none 0 0] 35 (0, 0)) := (heap_set_far (by omega)).trans ((heap_set_far (by omega)).trans (heap_set5 H1.out _ _ _ _ _))
  have y2 : (((((w.setCell ⟨P1, 0, none⟩ (.string ⟨#[]⟩)).setCell ⟨P1, 1, none⟩ (.int .i64 0)).setCell ⟨P1, 2, none⟩ (.int .i64 0)).setCell ⟨P1, 3, none⟩ (.int .i64 0)).setCell ⟨P1, 4, none⟩ (.slice none 0 0)).heap[P1 + 1]? = some (.cells #[x0] 3 (0, 0)) := (heap_set_far (by omega)).trans ((heap_set_far (by omega)).trans ((heap_set_far (by omega)).trans ((heap_set_far (by omega)).trans ((heap_set_far (by omega)).trans H2.out))))
  have y3 : ((((((w.setCell ⟨P1, 0, none⟩ (.string ⟨#[]⟩)).setCell ⟨P1, 1, none⟩ (.int .i64 0)).setCell ⟨P1, 2, none⟩ (.int .i64 0)).setCell ⟨P1, 3, none⟩ (.int .i64 0)).setCell ⟨P1, 4, none⟩ (.slice none 0 0)).setCell ⟨P1 + 1, 0, none⟩ (.int .i64 at_)).heap[P1 + 1 + 1]? = some (.cells #[y0] 36 (0, 0)) := (heap_set_far (by omega)).trans ((heap_set_far (by omega)).trans ((heap_set_far (by omega)).trans ((heap_set_far (by omega)).trans ((heap_set_far (by omega)).trans ((heap_set_far (by omega)).trans H3.out)))))
  have x2 : (((((((w.setCell ⟨P1, 0, none⟩ (.string ⟨#[]⟩)).setCell ⟨P1, 1, none⟩ (.int .i64 0)).setCell ⟨P1, 2, none⟩ (.int .i64 0)).setCell ⟨P1, 3, none⟩ (.int .i64 0)).setCell ⟨P1, 4, none⟩ (.slice none 0 0)).setCell ⟨P1 + 1, 0, none⟩ (.int .i64 at_)).setCell ⟨P1 + 1 + 1, 0, none⟩ (.int .i64 e')).cell? ⟨P1 + 1, 0, none⟩ = some (.int .i64 at_) := cell_of_row _ _ 0 _ _ _ ((heap_set_far (by omega)).trans (heap_set (i := 0) y2 (.int .i64 at_)))
  have x3 : (((((((w.setCell ⟨P1, 0, none⟩ (.string ⟨#[]⟩)).setCell ⟨P1, 1, none⟩ (.int .i64 0)).setCell ⟨P1, 2, none⟩ (.int .i64 0)).setCell ⟨P1, 3, none⟩ (.int .i64 0)).setCell ⟨P1, 4, none⟩ (.slice none 0 0)).setCell ⟨P1 + 1, 0, none⟩ (.int .i64 at_)).setCell ⟨P1 + 1 + 1, 0, none⟩ (.int .i64 e')).cell? ⟨P1 + 1 + 1, 0, none⟩ = some (.int .i64 e') := cell_of_row _ _ 0 _ _ _ (heap_set (i := 0) y3 (.int .i64 e'))
  have hs : (((((((w.setCell ⟨P1, 0, none⟩ (.string ⟨#[]⟩)).setCell ⟨P1, 1, none⟩ (.int .i64 0)).setCell ⟨P1, 2, none⟩ (.int .i64 0)).setCell ⟨P1, 3, none⟩ (.int .i64 0)).setCell ⟨P1, 4, none⟩ (.slice none 0 0)).setCell ⟨P1 + 1, 0, none⟩ (.int .i64 at_)).setCell ⟨P1 + 1 + 1, 0, none⟩ (.int .i64 e')).heap.size = w.heap.size := by simp
  have hb : Below B w (((((((w.setCell ⟨P1, 0, none⟩ (.string ⟨#[]⟩)).setCell ⟨P1, 1, none⟩ (.int .i64 0)).setCell ⟨P1, 2, none⟩ (.int .i64 0)).setCell ⟨P1, 3, none⟩ (.int .i64 0)).setCell ⟨P1, 4, none⟩ (.slice none 0 0)).setCell ⟨P1 + 1, 0, none⟩ (.int .i64 at_)).setCell ⟨P1 + 1 + 1, 0, none⟩ (.int .i64 e')) := (((((((Below.refl B w).setCell hB _).setCell hB _).setCell hB _).setCell hB _).setCell hB _).setCell (by show _ ≤ P1 + 1; omega) _).setCell (by show _ ≤ P1 + 1 + 1; omega) _
  generalize (((((((w.setCell ⟨P1, 0, none⟩ (.string ⟨#[]⟩)).setCell ⟨P1, 1, none⟩ (.int .i64 0)).setCell ⟨P1, 2, none⟩ (.int .i64 0)).setCell ⟨P1, 3, none⟩ (.int .i64 0)).setCell ⟨P1, 4, none⟩ (.slice none 0 0)).setCell ⟨P1 + 1, 0, none⟩ (.int .i64 at_)).setCell ⟨P1 + 1 + 1, 0, none⟩ (.int .i64 e')) = wF at *
  have hb2 := (hb.alloc (by omega) (.cells #[.int .i64 at_, .int .i64 e'] 52)).drew
  have z1 : (wF.alloc (.cells #[.int .i64 at_, .int .i64 e'] 52)).drew.heap[P1]? = _ := (heap_alloc_old wF _ P1 (by omega)).trans x1
  have z2 : (wF.alloc (.cells #[.int .i64 at_, .int .i64 e'] 52)).drew.cell? ⟨P1 + 1, 0, none⟩ = _ := (World.cell?_of_block (a := ⟨P1 + 1, 0, none⟩) (heap_alloc_old wF _ (P1 + 1) (by omega))).trans x2
  have z3 : (wF.alloc (.cells #[.int .i64 at_, .int .i64 e'] 52)).drew.cell? ⟨P1 + 1 + 1, 0, none⟩ = _ := (World.cell?_of_block (a := ⟨P1 + 1 + 1, 0, none⟩) (heap_alloc_old wF _ (P1 + 1 + 1) (by omega))).trans x3
  cases c₀
  cases hu
  exact ⟨rfl, _, rfl, _, results_none rfl _ _ _, rfl, rfl, z1, z2, z3, hb2⟩
end Go.Proofs.Ytpfgidhchjcomaa
