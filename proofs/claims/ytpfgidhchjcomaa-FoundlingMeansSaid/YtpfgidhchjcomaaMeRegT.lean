/- The region of the law, from its beginning; the frame behind it. (Printed by gen_r36c.py.) -/
import Derived.Test.YtpfgidhchjcomaaMeRegS
namespace Go.Proofs.Ytpfgidhchjcomaa
open Go.RowKit
set_option linter.unusedVariables false
section
variable {Q : Exit → Act → World → Prop} {T : Array Value} {w : World} {c0 c1 c2 c3 c4 c5 fv gv : Value} {O : ByteArray} {F G : List ByteArray} {bx : Nat} {nm : ByteArray} {k1 k2 k3 : Int} {its : List It}
theorem set_out {tm : Array Value} {d k : Nat} {v : Value} (hd : inS d = true) (hk : inS k = false) : (tm.setIfInBounds d v)[k]? = tm[k]? := by
  have hne : d ≠ k := fun e => by rw [← e, hd] at hk; cases hk
  simp [hne]
set_option maxRecDepth 100000 in
theorem region36 (C : C36 Q T w c0 c1 c2 c3 c4 c5 fv gv O F G bx nm k1 k2 k3 its) (hc : c0.oneCell' = true ∧ c1.oneCell' = true ∧ c2.oneCell' = true ∧ c3.oneCell' = true ∧ c4.oneCell' = true ∧ c5.oneCell' = true) : (Code.region 36 ops36 true).wp Try.prog Q { tmps := T, defers := [] } w := by
  have bl : Below w.heap.size w w.drew := (Below.refl _ _).drew
  refine wp_region_held_drew (S := fun W => Below w.heap.size w W) (by kernel_rfl) bl (fun _ => ?_)
  have hlx := lt_heap C.row
  refine wpAnyH_take (i := 0) (oi := o36_0) (v := .agg #[c0, c1, c2, c3, c4, c5]) rfl (by kernel_rfl) (by kernel_rfl) (by kernel_rfl) (fun c a w h => C.qp c a w _ _ h) (Or.inl ⟨by rfl, fun W' hW => by
    have hr := (hW.block bx hlx).trans C.row
    have q0 := cell_of_row W' bx 0 _ _ _ hr
    have q1 := cell_of_row W' bx 1 _ _ _ hr
    have q2 := cell_of_row W' bx 2 _ _ _ hr
    have q3 := cell_of_row W' bx 3 _ _ _ hr
    have q4 := cell_of_row W' bx 4 _ _ _ hr
    have q5 := cell_of_row W' bx 5 _ _ _ hr
    simp at q0 q1 q2 q3 q4 q5
    have h11 := C.t11
    unfold o36_0
    go_simp⟩) bl ?_
  refine wpAnyH_take (i := 2) (oi := o36_2) (v := fv) rfl (by kernel_rfl) (by kernel_rfl) (by kernel_rfl) (fun c a w h => C.qp c a w _ _ h) (Or.inl ⟨by rfl, fun W' _ => by
    have h9 : (T.setIfInBounds 141 (.agg #[c0, c1, c2, c3, c4, c5]))[9]? = some fv := put_get C.t9 (by decide)
    show (execOp (Act.eval { tmps := T.setIfInBounds 141 (.agg #[c0, c1, c2, c3, c4, c5]), defers := [] }) o36_2).run _ W' = _
    generalize T.setIfInBounds 141 (.agg #[c0, c1, c2, c3, c4, c5]) = tz at *
    unfold o36_2
    go_simp⟩) bl ?_
  refine wpAnyH_take (i := 4) (oi := o36_4) (v := .string O) rfl (by kernel_rfl) (by kernel_rfl) (by kernel_rfl) (fun c a w h => C.qp c a w _ _ h) (Or.inl ⟨by rfl, fun W' _ => by
    have h9 : ((T.setIfInBounds 141 (.agg #[c0, c1, c2, c3, c4, c5])).setIfInBounds 143 fv)[15]? = some (.string O) := put_get (put_get C.t15 (by decide)) (by decide)
    show (execOp (Act.eval { tmps := (T.setIfInBounds 141 (.agg #[c0, c1, c2, c3, c4, c5])).setIfInBounds 143 fv, defers := [] }) o36_4).run _ W' = _
    generalize (T.setIfInBounds 141 (.agg #[c0, c1, c2, c3, c4, c5])).setIfInBounds 143 fv = tz at *
    unfold o36_4
    go_simp⟩) bl ?_
  refine wpAnyH_take (i := 7) (oi := o36_7) (v := .string O) rfl (by kernel_rfl) (by kernel_rfl) (by kernel_rfl) (fun c a w h => C.qp c a w _ _ h) (Or.inl ⟨by rfl, fun W' _ => by
    have h9 : (((T.setIfInBounds 141 (.agg #[c0, c1, c2, c3, c4, c5])).setIfInBounds 143 fv).setIfInBounds 145 (.string O))[15]? = some (.string O) := put_get (put_get (put_get C.t15 (by decide)) (by decide)) (by decide)
    show (execOp (Act.eval { tmps := ((T.setIfInBounds 141 (.agg #[c0, c1, c2, c3, c4, c5])).setIfInBounds 143 fv).setIfInBounds 145 (.string O), defers := [] }) o36_7).run _ W' = _
    generalize ((T.setIfInBounds 141 (.agg #[c0, c1, c2, c3, c4, c5])).setIfInBounds 143 fv).setIfInBounds 145 (.string O) = tz at *
    unfold o36_7
    go_simp⟩) bl ?_
  refine wpAnyH_take (i := 9) (oi := o36_9) (v := gv) rfl (by kernel_rfl) (by kernel_rfl) (by kernel_rfl) (fun c a w h => C.qp c a w _ _ h) (Or.inl ⟨by rfl, fun W' _ => by
    have h9 : ((((T.setIfInBounds 141 (.agg #[c0, c1, c2, c3, c4, c5])).setIfInBounds 143 fv).setIfInBounds 145 (.string O)).setIfInBounds 148 (.string O))[10]? = some gv := put_get (put_get (put_get (put_get C.t10 (by decide)) (by decide)) (by decide)) (by decide)
    show (execOp (Act.eval { tmps := (((T.setIfInBounds 141 (.agg #[c0, c1, c2, c3, c4, c5])).setIfInBounds 143 fv).setIfInBounds 145 (.string O)).setIfInBounds 148 (.string O), defers := [] }) o36_9).run _ W' = _
    generalize (((T.setIfInBounds 141 (.agg #[c0, c1, c2, c3, c4, c5])).setIfInBounds 143 fv).setIfInBounds 145 (.string O)).setIfInBounds 148 (.string O) = tz at *
    unfold o36_9
    go_simp⟩) bl ?_
  have fr : Fr T (((((T.setIfInBounds 141 (.agg #[c0, c1, c2, c3, c4, c5])).setIfInBounds 143 fv).setIfInBounds 145 (.string O)).setIfInBounds 148 (.string O)).setIfInBounds 150 gv) (.agg #[c0, c1, c2, c3, c4, c5]) fv gv O := by
    have hs := C.sz
    refine ⟨by simpa using hs, fun k hk => ?_, ?_, ?_, ?_, ?_, ?_⟩
    · rw [set_out (by decide) hk, set_out (by decide) hk, set_out (by decide) hk, set_out (by decide) hk, set_out (by decide) hk]
    · exact put_get (put_get (put_get (put_get (put_same (by rw [hs]; decide)) (by decide)) (by decide)) (by decide)) (by decide)
    · exact put_get (put_get (put_get (put_same (by simp [hs])) (by decide)) (by decide)) (by decide)
    · exact put_get (put_get (put_same (by simp [hs])) (by decide)) (by decide)
    · exact put_get (put_same (by simp [hs])) (by decide)
    · exact put_same (by simp [hs])
  exact st_00000 C _ w.drew fr bl
end
theorem Fr.canon {T tm : Array Value} {xV fv gv : Value} {O : ByteArray} (h : Fr T tm xV fv gv O) (hT : T.size = 183) {u14 u23 : Value} (h14 : tm[14]? = some u14) (h23 : tm[23]? = some u23) : ∃ u24 u140 u141 u142 u143 u144 u145 u146 u147 u148 u149 u150 u151 u152 u153 u154 u155 : Value, tm = (((((((((((((((((((T.setIfInBounds 14 u14).setIfInBounds 23 u23).setIfInBounds 24 u24).setIfInBounds 140 u140).setIfInBounds 141 u141).setIfInBounds 142 u142).setIfInBounds 143 u143).setIfInBounds 144 u144).setIfInBounds 145 u145).setIfInBounds 146 u146).setIfInBounds 147 u147).setIfInBounds 148 u148).setIfInBounds 149 u149).setIfInBounds 150 u150).setIfInBounds 151 u151).setIfInBounds 152 u152).setIfInBounds 153 u153).setIfInBounds 154 u154).setIfInBounds 155 u155) := by
  have key : ∀ k, k < 183 → ∃ v, tm[k]? = some v := fun k hk => ⟨tm[k]'(by rw [h.size]; exact hk), Array.getElem?_eq_getElem _⟩
  obtain ⟨u24, h24⟩ := key 24 (by decide)
  obtain ⟨u140, h140⟩ := key 140 (by decide)
  obtain ⟨u141, h141⟩ := key 141 (by decide)
  obtain ⟨u142, h142⟩ := key 142 (by decide)
  obtain ⟨u143, h143⟩ := key 143 (by decide)
  obtain ⟨u144, h144⟩ := key 144 (by decide)
  obtain ⟨u145, h145⟩ := key 145 (by decide)
  obtain ⟨u146, h146⟩ := key 146 (by decide)
  obtain ⟨u147, h147⟩ := key 147 (by decide)
  obtain ⟨u148, h148⟩ := key 148 (by decide)
  obtain ⟨u149, h149⟩ := key 149 (by decide)
  obtain ⟨u150, h150⟩ := key 150 (by decide)
  obtain ⟨u151, h151⟩ := key 151 (by decide)
  obtain ⟨u152, h152⟩ := key 152 (by decide)
  obtain ⟨u153, h153⟩ := key 153 (by decide)
  obtain ⟨u154, h154⟩ := key 154 (by decide)
  obtain ⟨u155, h155⟩ := key 155 (by decide)
  refine ⟨u24, u140, u141, u142, u143, u144, u145, u146, u147, u148, u149, u150, u151, u152, u153, u154, u155, Array.ext_getElem? fun k => ?_⟩
  by_cases hk : inS k = true
  · have hk' : k = 14 ∨ k = 23 ∨ k = 24 ∨ k = 140 ∨ k = 141 ∨ k = 142 ∨ k = 143 ∨ k = 144 ∨ k = 145 ∨ k = 146 ∨ k = 147 ∨ k = 148 ∨ k = 149 ∨ k = 150 ∨ k = 151 ∨ k = 152 ∨ k = 153 ∨ k = 154 ∨ k = 155 := by
      unfold inS at hk
      simp only [Bool.or_eq_true, Bool.and_eq_true, beq_iff_eq, decide_eq_true_eq] at hk
      omega
    have hs := hT
    rcases hk' with rfl | rfl | rfl | rfl | rfl | rfl | rfl | rfl | rfl | rfl | rfl | rfl | rfl | rfl | rfl | rfl | rfl | rfl | rfl
    · exact h14.trans (put_get (put_get (put_get (put_get (put_get (put_get (put_get (put_get (put_get (put_get (put_get (put_get (put_get (put_get (put_get (put_get (put_get (put_get (put_same (by simp [hT])) (by decide)) (by decide)) (by decide)) (by decide)) (by decide)) (by decide)) (by decide)) (by decide)) (by decide)) (by decide)) (by decide)) (by decide)) (by decide)) (by decide)) (by decide)) (by decide)) (by decide)) (by decide)).symm
    · exact h23.trans (put_get (put_get (put_get (put_get (put_get (put_get (put_get (put_get (put_get (put_get (put_get (put_get (put_get (put_get (put_get (put_get (put_get (put_same (by simp [hT])) (by decide)) (by decide)) (by decide)) (by decide)) (by decide)) (by decide)) (by decide)) (by decide)) (by decide)) (by decide)) (by decide)) (by decide)) (by decide)) (by decide)) (by decide)) (by decide)) (by decide)).symm
    · exact h24.trans (put_get (put_get (put_get (put_get (put_get (put_get (put_get (put_get (put_get (put_get (put_get (put_get (put_get (put_get (put_get (put_get (put_same (by simp [hT])) (by decide)) (by decide)) (by decide)) (by decide)) (by decide)) (by decide)) (by decide)) (by decide)) (by decide)) (by decide)) (by decide)) (by decide)) (by decide)) (by decide)) (by decide)) (by decide)).symm
    · exact h140.trans (put_get (put_get (put_get (put_get (put_get (put_get (put_get (put_get (put_get (put_get (put_get (put_get (put_get (put_get (put_get (put_same (by simp [hT])) (by decide)) (by decide)) (by decide)) (by decide)) (by decide)) (by decide)) (by decide)) (by decide)) (by decide)) (by decide)) (by decide)) (by decide)) (by decide)) (by decide)) (by decide)).symm
    · exact h141.trans (put_get (put_get (put_get (put_get (put_get (put_get (put_get (put_get (put_get (put_get (put_get (put_get (put_get (put_get (put_same (by simp [hT])) (by decide)) (by decide)) (by decide)) (by decide)) (by decide)) (by decide)) (by decide)) (by decide)) (by decide)) (by decide)) (by decide)) (by decide)) (by decide)) (by decide)).symm
    · exact h142.trans (put_get (put_get (put_get (put_get (put_get (put_get (put_get (put_get (put_get (put_get (put_get (put_get (put_get (put_same (by simp [hT])) (by decide)) (by decide)) (by decide)) (by decide)) (by decide)) (by decide)) (by decide)) (by decide)) (by decide)) (by decide)) (by decide)) (by decide)) (by decide)).symm
    · exact h143.trans (put_get (put_get (put_get (put_get (put_get (put_get (put_get (put_get (put_get (put_get (put_get (put_get (put_same (by simp [hT])) (by decide)) (by decide)) (by decide)) (by decide)) (by decide)) (by decide)) (by decide)) (by decide)) (by decide)) (by decide)) (by decide)) (by decide)).symm
    · exact h144.trans (put_get (put_get (put_get (put_get (put_get (put_get (put_get (put_get (put_get (put_get (put_get (put_same (by simp [hT])) (by decide)) (by decide)) (by decide)) (by decide)) (by decide)) (by decide)) (by decide)) (by decide)) (by decide)) (by decide)) (by decide)).symm
    · exact h145.trans (put_get (put_get (put_get (put_get (put_get (put_get (put_get (put_get (put_get (put_get (put_same (by simp [hT])) (by decide)) (by decide)) (by decide)) (by decide)) (by decide)) (by decide)) (by decide)) (by decide)) (by decide)) (by decide)).symm
    · exact h146.trans (put_get (put_get (put_get (put_get (put_get (put_get (put_get (put_get (put_get (put_same (by simp [hT])) (by decide)) (by decide)) (by decide)) (by decide)) (by decide)) (by decide)) (by decide)) (by decide)) (by decide)).symm
    · exact h147.trans (put_get (put_get (put_get (put_get (put_get (put_get (put_get (put_get (put_same (by simp [hT])) (by decide)) (by decide)) (by decide)) (by decide)) (by decide)) (by decide)) (by decide)) (by decide)).symm
    · exact h148.trans (put_get (put_get (put_get (put_get (put_get (put_get (put_get (put_same (by simp [hT])) (by decide)) (by decide)) (by decide)) (by decide)) (by decide)) (by decide)) (by decide)).symm
    · exact h149.trans (put_get (put_get (put_get (put_get (put_get (put_get (put_same (by simp [hT])) (by decide)) (by decide)) (by decide)) (by decide)) (by decide)) (by decide)).symm
    · exact h150.trans (put_get (put_get (put_get (put_get (put_get (put_same (by simp [hT])) (by decide)) (by decide)) (by decide)) (by decide)) (by decide)).symm
    · exact h151.trans (put_get (put_get (put_get (put_get (put_same (by simp [hT])) (by decide)) (by decide)) (by decide)) (by decide)).symm
    · exact h152.trans (put_get (put_get (put_get (put_same (by simp [hT])) (by decide)) (by decide)) (by decide)).symm
    · exact h153.trans (put_get (put_get (put_same (by simp [hT])) (by decide)) (by decide)).symm
    · exact h154.trans (put_get (put_same (by simp [hT])) (by decide)).symm
    · exact h155.trans (put_same (by simp [hT])).symm
  · have hk' : inS k = false := by simpa using hk
    rw [h.same k hk', set_out (by decide) hk', set_out (by decide) hk', set_out (by decide) hk', set_out (by decide) hk', set_out (by decide) hk', set_out (by decide) hk', set_out (by decide) hk', set_out (by decide) hk', set_out (by decide) hk', set_out (by decide) hk', set_out (by decide) hk', set_out (by decide) hk', set_out (by decide) hk', set_out (by decide) hk', set_out (by decide) hk', set_out (by decide) hk', set_out (by decide) hk', set_out (by decide) hk', set_out (by decide) hk']
end Go.Proofs.Ytpfgidhchjcomaa
