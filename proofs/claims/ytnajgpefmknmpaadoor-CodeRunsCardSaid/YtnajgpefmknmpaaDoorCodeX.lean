/- The checker's small functions. -/
import Derived.Test.YtnajgpefmknmpaaDoorCodeW
import Derived.Lib.MinMax
namespace Go.Proofs.YtnajgpefmknmpaaDoor
open Go.RowKit Go.Maps
set_option linter.unusedVariables false
/-- the world behind wrong -/
def wrongW (w : World) (h : Nat) (e x : Int) : World := if e = 0 ∨ x < e then w.setCell ⟨h, 9, none⟩ (.int .i64 x) else w
theorem wrongW_heap {w : World} {v pv : Value} {W : Wd} {q : Pl} {most e : Int} (hh : w.heap[q.h]? = some (.cells (ckC v pv W q most e) 86 (0, 0))) (x : Int) :
    (wrongW w q.h e x).heap[q.h]? = some (.cells (ckC v pv W q most (wrongE e x)) 86 (0, 0)) := by
  unfold wrongW wrongE
  split
  · rw [heap_setCell_same _ _ _ _ _ _ hh]; rfl
  · exact hh
theorem wrongW_grown (w : World) (h : Nat) (e x : Int) : w.grownBy (wrongW w h e x) (some h) := by
  unfold wrongW
  split
  · exact ⟨rfl, rfl, rfl, by simp, fun k hk hne => Below.heap_setCell _ _ _ _ (by simpa using hne)⟩
  · exact World.grownBy.refl _ _
theorem wrongW_size (w : World) (h : Nat) (e x : Int) : (wrongW w h e x).heap.size = w.heap.size := by
  unfold wrongW; split <;> simp
set_option maxRecDepth 100000 in
theorem wrong_any (q : Pl) (v pv : Value) (W : Wd) (most e x : Int) (w : World) (hh : w.heap[q.h]? = some (.cells (ckC v pv W q most e) 86 (0, 0))) :
    Calls Tryd.prog 36 #[.pointer (some ⟨q.h, 0, none⟩), .int .i64 x] w fun en w' => en = .returned (.tuple #[]) ∧ w' = wrongW w q.h e x := by
  have c9 : w.cell? ⟨q.h, 9, none⟩ = some (.int .i64 e) := cell_of_row w _ 9 _ _ _ hh
  have f9 : w.frozen? ⟨q.h, 9, none⟩ = false := by unfold World.frozen?; rw [hh]; rfl
  unfold wrongW
  clear hh
  by_cases h0 : e = 0
  · subst h0
    rw [if_pos (Or.inl rfl)]
    go_enter Tryd.func36, Tryd.ntmps36
    go_wp2_with fail
    go_end0
    exact ⟨rfl, rfl⟩
  · have h0' : (e == 0) = false := by simpa using h0
    by_cases hx : x < e
    · rw [if_pos (Or.inr hx)]
      go_enter Tryd.func36, Tryd.ntmps36
      go_wp2_with fail
      go_end0
      exact ⟨rfl, rfl⟩
    · rw [if_neg (by omega)]
      have hx' := decide_eq_false hx
      clear hx
      go_enter Tryd.func36, Tryd.ntmps36
      go_wp2_with fail
      go_end0
      exact ⟨rfl, rfl⟩
set_option maxRecDepth 100000 in
theorem within_any (q : Pl) (v pv : Value) (W : Wd) (most e z n : Int) (f : Int → Option Int) (N : Nat) (w : World) (hh : w.heap[q.h]? = some (.cells (ckC v pv W q most e) 86 (0, 0))) (hm : MapI w q.m1 f N) (hz : I64 z) (hn : I64 n) :
    Calls Tryd.prog 39 #[.pointer (some ⟨q.h, 0, none⟩), .int .i64 z, .int .i64 n] w fun en w' => en = .returned (.bool (decide (f z = some n))) ∧ w' = w := by
  have c5 : w.cell? ⟨q.h, 5, none⟩ = some (.map (some q.m1)) := cell_of_row w _ 5 _ _ _ hh
  have hl := hm.lookOk hz
  have HR := Lib.hid (show decide (f z = some n) = ((f z).isSome && ((f z).getD 0 == n)) by
    cases f z with
    | none => rfl
    | some y => rw [Bool.eq_iff_iff]; simp)
  clear hh hm hn hz
  generalize (f z).getD 0 = y at *
  generalize (f z).isSome = b at *
  cases b
  all_goals
    go_enter Tryd.func39, Tryd.ntmps39
    go_wp2_with fail
    go_ret
    exact ⟨by rw [HR.out]; rfl, rfl⟩
set_option maxRecDepth 100000 in
set_option maxHeartbeats 1000000 in
theorem jumps_any (x : Ins) (w : World) :
    Calls Tryd.prog 38 #[.agg #[.int .i64 x.op, .int .i64 x.a, .int .i64 x.b]] w fun en w' => en = .returned (.bool (jumpsB x)) ∧ Below w.heap.size w w' := by
  obtain ⟨o, a, b⟩ := x
  unfold jumpsB
  show Calls Tryd.prog 38 #[.agg #[.int .i64 o, .int .i64 a, .int .i64 b]] w fun en w' => en = .returned (.bool (decide (o = 14) || decide (o = 15) || decide (o = 16))) ∧ Below w.heap.size w w'
  by_cases h1 : o = 14
  · subst h1
    go_enter Tryd.func38, Tryd.ntmps38
    go_wp2_with fail
    go_ret
    exact ⟨rfl, by repeat (first | with_reducible exact Below.refl _ _ | ((with_reducible refine Below.setCell ?_ ?_ _); rotate_left; focus (first | (simp; done) | (simp; omega) | omega)) | ((with_reducible refine Below.alloc ?_ ?_ _); rotate_left; focus (first | (simp; done) | (simp; omega) | omega)) | (with_reducible refine Below.drew ?_))⟩
  · by_cases h2 : o = 15
    · subst h2
      go_enter Tryd.func38, Tryd.ntmps38
      go_wp2_with fail
      go_ret
      exact ⟨rfl, by repeat (first | with_reducible exact Below.refl _ _ | ((with_reducible refine Below.setCell ?_ ?_ _); rotate_left; focus (first | (simp; done) | (simp; omega) | omega)) | ((with_reducible refine Below.alloc ?_ ?_ _); rotate_left; focus (first | (simp; done) | (simp; omega) | omega)) | (with_reducible refine Below.drew ?_))⟩
    · by_cases h3 : o = 16
      · subst h3
        go_enter Tryd.func38, Tryd.ntmps38
        go_wp2_with fail
        go_ret
        exact ⟨rfl, by repeat (first | with_reducible exact Below.refl _ _ | ((with_reducible refine Below.setCell ?_ ?_ _); rotate_left; focus (first | (simp; done) | (simp; omega) | omega)) | ((with_reducible refine Below.alloc ?_ ?_ _); rotate_left; focus (first | (simp; done) | (simp; omega) | omega)) | (with_reducible refine Below.drew ?_))⟩
      · have HF := Lib.hid (show (decide (o = 14) || decide (o = 15) || decide (o = 16)) = false by rw [decide_eq_false h1, decide_eq_false h2, decide_eq_false h3]; rfl)
        have e1 : (o == 14) = false := by simpa using h1
        have e2 : (o == 15) = false := by simpa using h2
        have e3 : (o == 16) = false := by simpa using h3
        clear h1 h2 h3
        rw [HF.out]
        go_enter Tryd.func38, Tryd.ntmps38
        go_wp2_with fail
        go_ret
        exact ⟨rfl, by repeat (first | with_reducible exact Below.refl _ _ | ((with_reducible refine Below.setCell ?_ ?_ _); rotate_left; focus (first | (simp; done) | (simp; omega) | omega)) | ((with_reducible refine Below.alloc ?_ ?_ _); rotate_left; focus (first | (simp; done) | (simp; omega) | omega)) | (with_reducible refine Below.drew ?_))⟩
/-- an operation's number, or another -/
theorem op_cases (o : Int) : o = 5 ∨ o = 6 ∨ o = 7 ∨ o = 8 ∨ o = 9 ∨ o = 10 ∨ o = 11 ∨ o = 12 ∨ o = 13 ∨ o = 14 ∨ o = 15 ∨ o = 16 ∨ o = 17 ∨ o = 18 ∨ o = 19 ∨ (¬ o = 5 ∧ ¬ o = 6 ∧ ¬ o = 7 ∧ ¬ o = 8 ∧ ¬ o = 9 ∧ ¬ o = 10 ∧ ¬ o = 11 ∧ ¬ o = 12 ∧ ¬ o = 13 ∧ ¬ o = 14 ∧ ¬ o = 15 ∧ ¬ o = 16 ∧ ¬ o = 17 ∧ ¬ o = 18 ∧ ¬ o = 19) := by omega
set_option maxRecDepth 100000 in
set_option maxHeartbeats 4000000 in
theorem flow_any (x : Ins) (w : World) (hb : -100000 ≤ x.b ∧ x.b ≤ 100000) :
    Calls Tryd.prog 44 #[.agg #[.int .i64 x.op, .int .i64 x.a, .int .i64 x.b]] w fun en w' => en = .returned (.tuple #[.int .i64 (flowM x).1, .int .i64 (flowM x).2]) ∧ Below w.heap.size w w' := by
  obtain ⟨o, a, b⟩ := x
  obtain ⟨b1, b2⟩ := hb
  simp only at b1 b2
  show Calls Tryd.prog 44 #[.agg #[.int .i64 o, .int .i64 a, .int .i64 b]] w fun en w' => en = .returned (.tuple #[.int .i64 (flowM ⟨o, a, b⟩).1, .int .i64 (flowM ⟨o, a, b⟩).2]) ∧ Below w.heap.size w w'
  rcases op_cases o with rfl | rfl | rfl | rfl | rfl | rfl | rfl | rfl | rfl | rfl | rfl | rfl | rfl | rfl | rfl | ⟨h5, h6, h7, h8, h9, h10, h11, h12, h13, h14, h15, h16, h17, h18, h19⟩
  all_goals try
    focus
      go_enter Tryd.func44, Tryd.ntmps44
      go_wp2_with fail
      exact bodyPost_ret (results_tmp2 Tryd.results44 _ _ _) rfl ⟨rfl, by repeat (first | with_reducible exact Below.refl _ _ | ((with_reducible refine Below.setCell ?_ ?_ _); rotate_left; focus (first | (simp; done) | (simp; omega) | omega)) | ((with_reducible refine Below.alloc ?_ ?_ _); rotate_left; focus (first | (simp; done) | (simp; omega) | omega)) | (with_reducible refine Below.drew ?_))⟩
  have HF := Lib.hid (show flowM ⟨o, a, b⟩ = (0, 1) by
    unfold flowM
    simp only [h8, h9, h10, h11, h12, h13, h14, h15, h16, h18, h19, or_self, if_false])
  have e8 : (o == 8) = false := by simpa using h8
  have e9 : (o == 9) = false := by simpa using h9
  have e10 : (o == 10) = false := by simpa using h10
  have e11 : (o == 11) = false := by simpa using h11
  have e12 : (o == 12) = false := by simpa using h12
  have e13 : (o == 13) = false := by simpa using h13
  have e14 : (o == 14) = false := by simpa using h14
  have e15 : (o == 15) = false := by simpa using h15
  have e16 : (o == 16) = false := by simpa using h16
  have e18 : (o == 18) = false := by simpa using h18
  have e19 : (o == 19) = false := by simpa using h19
  clear h5 h6 h7 h8 h9 h10 h11 h12 h13 h14 h15 h16 h17 h18 h19
  rw [HF.out]
  go_enter Tryd.func44, Tryd.ntmps44
  go_wp2_with fail
  exact bodyPost_ret (results_tmp2 Tryd.results44 _ _ _) rfl ⟨rfl, by repeat (first | with_reducible exact Below.refl _ _ | ((with_reducible refine Below.setCell ?_ ?_ _); rotate_left; focus (first | (simp; done) | (simp; omega) | omega)) | ((with_reducible refine Below.alloc ?_ ?_ _); rotate_left; focus (first | (simp; done) | (simp; omega) | omega)) | (with_reducible refine Below.drew ?_))⟩
theorem below_dn {B : Nat} {w w' : World} (h : Below B w w') (n : Nat) : Below B w (w'.drewN n) := ⟨h.1, h.2, h.3, h.4, h.5⟩
set_option maxRecDepth 100000 in
set_option maxHeartbeats 4000000 in
theorem operands_any (q : Pl) (v pv : Value) (W : Wd) (most e : Int) (x : Ins) (w : World) (hh : w.heap[q.h]? = some (.cells (ckC v pv W q most e) 86 (0, 0))) :
    Calls Tryd.prog 37 #[.pointer (some ⟨q.h, 0, none⟩), .agg #[.int .i64 x.op, .int .i64 x.a, .int .i64 x.b]] w fun en w' => en = .returned (.bool (opsOk W x)) ∧ Below w.heap.size w w' := by
  have c1 : w.cell? ⟨q.h, 1, none⟩ = some (.int .i64 W.lits) := cell_of_row w _ 1 _ _ _ hh
  have c2 : w.cell? ⟨q.h, 2, none⟩ = some (.int .i64 W.slots) := cell_of_row w _ 2 _ _ _ hh
  have c3 : w.cell? ⟨q.h, 3, none⟩ = some (.int .i64 W.fields) := cell_of_row w _ 3 _ _ _ hh
  have hlt := lt_of_cell c1
  clear hh
  obtain ⟨o, a, b⟩ := x
  show Calls Tryd.prog 37 #[.pointer (some ⟨q.h, 0, none⟩), .agg #[.int .i64 o, .int .i64 a, .int .i64 b]] w fun en w' => en = .returned (.bool (opsOk W ⟨o, a, b⟩)) ∧ Below w.heap.size w w'
  rcases op_cases o with rfl | rfl | rfl | rfl | rfl | rfl | rfl | rfl | rfl | rfl | rfl | rfl | rfl | rfl | rfl | ⟨h5, h6, h7, h8, h9, h10, h11, h12, h13, h14, h15, h16, h17, h18, h19⟩
  all_goals try
    focus
      go_enter Tryd.func37, Tryd.ntmps37
      go_wp2_with fail
      go_quiet (fail)
      go_wp2_with fail
      go_ret
      exact ⟨rfl, below_dn ((Below.refl _ _).alloc (Nat.le_refl _) _) _⟩
  all_goals try
    focus
      go_enter Tryd.func37, Tryd.ntmps37
      go_wp2_with fail
      go_ret
      exact ⟨rfl, (Below.refl _ _).alloc (Nat.le_refl _) _⟩
  have HF := Lib.hid (show opsOk W ⟨o, a, b⟩ = true by
    unfold opsOk
    simp only [h5, h6, h7, h8, h9, h12, h13, or_self, if_false])
  have e5 : (o == 5) = false := by simpa using h5
  have e6 : (o == 6) = false := by simpa using h6
  have e7 : (o == 7) = false := by simpa using h7
  have e8 : (o == 8) = false := by simpa using h8
  have e9 : (o == 9) = false := by simpa using h9
  have e12 : (o == 12) = false := by simpa using h12
  have e13 : (o == 13) = false := by simpa using h13
  clear h5 h6 h7 h8 h9 h10 h11 h12 h13 h14 h15 h16 h17 h18 h19
  rw [HF.out]
  go_enter Tryd.func37, Tryd.ntmps37
  go_wp2_with fail
  go_ret
  exact ⟨rfl, (Below.refl _ _).alloc (Nat.le_refl _) _⟩
end Go.Proofs.YtnajgpefmknmpaaDoor
