/- Cut: a method of at most 200 nodes. -/
import Derived.Test.YtpfgidhchjcomaaMeFewB
import Derived.Test.YtpfgidhchjcomaaMeFind
namespace Go.Proofs.Ytpfgidhchjcomaa
open Go.RowKit
set_option linter.unusedVariables false
/-- a method by value -/
def mtV (nm : ByteArray) (pv tv : Value) (pr : Int) (bv : Value) (at_ : Int) : Value := .agg #[.string nm, pv, tv, .int .i64 pr, bv, .int .i64 at_]
def CutPost (x : Nat → Prop) (w : World) (nm : ByteArray) (ps ts : List ByteArray) (pr at_ : Int) (l : List Nd) (e : Ending) (w' : World) : Prop :=
  ∃ pv tv bv, e = .returned (mtV nm pv tv pr bv at_) ∧ StrsX (fun b => x b ∨ w.heap.size ≤ b) w' pv (ps.take 15) ∧ StrsX (fun b => x b ∨ w.heap.size ≤ b) w' tv (ts.take 15) ∧ NodesX (fun b => x b ∨ w.heap.size ≤ b) 60 w' bv (few 60 200 l).1 ∧ Below w.heap.size w w'
set_option maxRecDepth 100000 in
set_option maxHeartbeats 4000000 in
theorem cut_any (x : Nat → Prop) (D : Nat) (nm : ByteArray) (pv tv : Value) (ps ts : List ByteArray) (pr : Int) (v : Value) (at_ : Int) (l : List Nd) (w : World) (hxw : ∀ b, x b → b < w.heap.size) (hp : StrsX x w pv ps) (ht : StrsX x w tv ts) (h : NodesX x D w v l) :
    Calls Try.prog 5 #[mtV nm pv tv pr v at_] w fun e w' => CutPost x w nm ps ts pr at_ l e w' := by
  obtain ⟨pa, pc, rfl, -⟩ := id hp
  obtain ⟨ta, tc, rfl, -⟩ := id ht
  obtain ⟨va, vc, rfl, -⟩ := id h.shape
  have HXW := Lib.hid hxw
  have HP := Lib.hid hp
  have HT := Lib.hid ht
  have HN := Lib.hid h
  clear hxw hp ht h
  unfold mtV
  go_enter Try.func5, Try.ntmps5
  go_upto_region 2 with fail
  have hb3 : Below w.heap.size w (((w.alloc (.cells #[.string nm, .slice pa ps.length pc, .slice ta ts.length tc, .int .i64 pr, .slice va l.length vc, .int .i64 at_] 25)).alloc (.cells #[.string ⟨#[]⟩, .slice none 0 0, .slice none 0 0, .int .i64 0, .slice none 0 0, .int .i64 0] 25)).alloc (.cells #[.int .i64 200] 3)) := (((Below.refl _ _).alloc (Nat.le_refl _) _).alloc (by simp) _).alloc (by simp; omega) _
  have z3 : (((w.alloc (.cells #[.string nm, .slice pa ps.length pc, .slice ta ts.length tc, .int .i64 pr, .slice va l.length vc, .int .i64 at_] 25)).alloc (.cells #[.string ⟨#[]⟩, .slice none 0 0, .slice none 0 0, .int .i64 0, .slice none 0 0, .int .i64 0] 25)).alloc (.cells #[.int .i64 200] 3)).heap.size = w.heap.size + 3 := by simp
  have g0 : (((w.alloc (.cells #[.string nm, .slice pa ps.length pc, .slice ta ts.length tc, .int .i64 pr, .slice va l.length vc, .int .i64 at_] 25)).alloc (.cells #[.string ⟨#[]⟩, .slice none 0 0, .slice none 0 0, .int .i64 0, .slice none 0 0, .int .i64 0] 25)).alloc (.cells #[.int .i64 200] 3)).heap[w.heap.size]? = some (.cells #[.string nm, .slice pa ps.length pc, .slice ta ts.length tc, .int .i64 pr, .slice va l.length vc, .int .i64 at_] 25) := (heap_alloc_old _ _ _ (by simp; omega)).trans ((heap_alloc_old _ _ _ (by simp)).trans (heap_alloc_new w _))
  have g1 : (((w.alloc (.cells #[.string nm, .slice pa ps.length pc, .slice ta ts.length tc, .int .i64 pr, .slice va l.length vc, .int .i64 at_] 25)).alloc (.cells #[.string ⟨#[]⟩, .slice none 0 0, .slice none 0 0, .int .i64 0, .slice none 0 0, .int .i64 0] 25)).alloc (.cells #[.int .i64 200] 3)).heap[w.heap.size + 1]? = some (.cells #[.string ⟨#[]⟩, .slice none 0 0, .slice none 0 0, .int .i64 0, .slice none 0 0, .int .i64 0] 25) := (heap_alloc_old _ _ _ (by simp)).trans (heap_alloc2_new w _ _)
  have g2 : (((w.alloc (.cells #[.string nm, .slice pa ps.length pc, .slice ta ts.length tc, .int .i64 pr, .slice va l.length vc, .int .i64 at_] 25)).alloc (.cells #[.string ⟨#[]⟩, .slice none 0 0, .slice none 0 0, .int .i64 0, .slice none 0 0, .int .i64 0] 25)).alloc (.cells #[.int .i64 200] 3)).heap[w.heap.size + 2]? = some (.cells #[.int .i64 200] 3) := by
    have := heap_alloc_new ((w.alloc (.cells #[.string nm, .slice pa ps.length pc, .slice ta ts.length tc, .int .i64 pr, .slice va l.length vc, .int .i64 at_] 25)).alloc (.cells #[.string ⟨#[]⟩, .slice none 0 0, .slice none 0 0, .int .i64 0, .slice none 0 0, .int .i64 0] 25)) (.cells #[.int .i64 200] 3)
    simpa using this
  generalize (((w.alloc (.cells #[.string nm, .slice pa ps.length pc, .slice ta ts.length tc, .int .i64 pr, .slice va l.length vc, .int .i64 at_] 25)).alloc (.cells #[.string ⟨#[]⟩, .slice none 0 0, .slice none 0 0, .int .i64 0, .slice none 0 0, .int .i64 0] 25)).alloc (.cells #[.int .i64 200] 3)) = w3 at *
  have n4 := cell_of_row w3 w.heap.size 4 _ _ _ g0
  simp at n4
  have q0 := cell_of_row w3 (w.heap.size + 2) 0 _ _ _ g2
  have qf : w3.frozen? ⟨w.heap.size + 2, 0, none⟩ = false := (by unfold World.frozen?; rw [g2]; simp)
  have PX := Lib.hid (few_any (w.heap.size + 2) x (fun h => by have := HXW.out _ h; omega) 60 D _ l 200 w3 (fun b hb => by have := HXW.out b hb; omega) (by omega) (by omega) (HN.out.later hb3) (by simpa using q0) qf)
  have G0 := Lib.hid g0
  have G1 := Lib.hid g1
  have HB3 := Lib.hid hb3
  clear q0 qf g0 g1 g2 hb3
  go_wp2_with fail
  refine PX.out.mono ?_
  rintro e w6 ⟨v6, rfl, hn6, hz6⟩
  generalize hfk : (few 60 200 l) = fq at *
  obtain ⟨fk, m2⟩ := fq
  replace hn6 : NodesX (fun b => x b ∨ w3.heap.size ≤ b) 60 w6 v6 fk := hn6
  obtain ⟨a6, c6, rfl, -⟩ := id hn6.shape
  have z6 := hz6.1.size
  have t0 := (hz6.1.block w.heap.size (by omega) (by omega)).trans G0.out
  have t1 := (hz6.1.block (w.heap.size + 1) (by omega) (by omega)).trans G1.out
  have hP6 : StrsX x w6 (.slice pa ps.length pc) ps := (HP.out.later HB3.out).ex hz6.1 (fun k hk e => by have := HXW.out k hk; omega)
  have hT6 : StrsX x w6 (.slice ta ts.length tc) ts := (HT.out.later HB3.out).ex hz6.1 (fun k hk e => by have := HXW.out k hk; omega)
  have hB6 : Below w.heap.size w w6 := HB3.out.trans (hz6.1.below (fun k hk e => by omega) (by omega))
  have m4 := cell_of_row w6 w.heap.size 4 _ _ _ t0
  have mf : ∀ j, w6.frozen? ⟨w.heap.size, j, none⟩ = false := (by intro j; unfold World.frozen?; rw [t0]; simp)
  simp at m4
  have HFK := Lib.hid hfk
  have T0 := Lib.hid t0
  have T1 := Lib.hid t1
  have HN6 := Lib.hid hn6
  have HP6 := Lib.hid hP6
  have HT6 := Lib.hid hT6
  have HB6 := Lib.hid hB6
  clear hfk t0 t1 hn6 hP6 hT6 hB6 hz6 PX n4
  go_upto_region 3 with fail
  have s7 : (w6.setCell ⟨w.heap.size, 4, none⟩ (.slice a6 fk.length c6)).heap[w.heap.size]? = some (.cells #[.string nm, .slice pa ps.length pc, .slice ta ts.length tc, .int .i64 pr, .slice a6 fk.length c6, .int .i64 at_] 25 (0, 0)) := heap_set T0.out _
  have e7 : Ex (fun k => k = w.heap.size) w6 (w6.setCell ⟨w.heap.size, 4, none⟩ (.slice a6 fk.length c6)) := Ex.set w6 _
  generalize (w6.setCell ⟨w.heap.size, 4, none⟩ (.slice a6 fk.length c6)) = w7 at *
  clear m4 mf
  have k1 := cell_of_row w7 w.heap.size 1 _ _ _ s7
  have k2 := cell_of_row w7 w.heap.size 2 _ _ _ s7
  have kf : ∀ j, w7.frozen? ⟨w.heap.size, j, none⟩ = false := (by intro j; unfold World.frozen?; rw [s7]; simp)
  simp at k1 k2
  have S7 := Lib.hid s7
  have E7 := Lib.hid e7
  have HP7 := Lib.hid (show StrsX x w7 (.slice pa ps.length pc) ps from HP6.out.ex e7 (fun k hk e => by have := HXW.out k hk; omega))
  have z7 := e7.size
  clear s7 e7
  go_upto_if 11 with fail
  go_cut [] from 4 (fun wx => ∃ qa qc, wx.heap[w.heap.size]? = some (.cells #[.string nm, .slice qa (ps.take 15).length qc, .slice ta ts.length tc, .int .i64 pr, .slice a6 fk.length c6, .int .i64 at_] 25 (0, 0)) ∧ StrsX x wx (.slice qa (ps.take 15).length qc) (ps.take 15) ∧ Ex (fun k => k = w.heap.size) w6 wx)
  case first =>
    by_cases h9 : 15 < ps.length
    · have hd9 : decide ((15 : Int) < (ps.length : Int)) = true := decide_eq_true (by omega)
      obtain ⟨pv, hpv, hrun⟩ := strs_head HP7.out 15 (by omega)
      obtain ⟨qa, qc, rfl, -⟩ := id hpv
      have HPV := Lib.hid hpv
      have HTL : Hid ((ps.take 15).length = 15) := Lib.hid (by rw [List.length_take]; omega)
      rw [HTL.out] at hrun
      have hrun' : ∀ W, (Instr.slice 22 (.slice pa ps.length pc) none (some (.int .i64 15)) none).run Try.prog W = .ok (.slice qa 15 qc) W := hrun
      clear hpv hrun
      go_wp2_with fail
      go_meet
      case rel =>
        rw [HTL.out]
        have h9' := HPV.out
        rw [HTL.out] at h9'
        exact ⟨qa, qc, heap_set (i := 1) S7.out (.slice qa 15 qc), h9'.ex (Ex.set (p := w.heap.size) (o := 1) w7 (.slice qa 15 qc)) (fun k hk e => by have := HXW.out k hk; omega), E7.out.trans (Ex.set w7 _)⟩
    · have hd9 : decide ((15 : Int) < (ps.length : Int)) = false := decide_eq_false (by omega)
      have HTL : Hid (ps.take 15 = ps) := Lib.hid (List.take_of_length_le (by omega))
      go_wp2_with fail
      go_meet
      case rel =>
        rw [HTL.out]
        exact ⟨pa, pc, S7.out, HP7.out, E7.out⟩
  rename World => w8
  obtain ⟨qa, qc, r1, st1, e1⟩ := hcut
  have z8 := e1.size
  clear k1 k2 kf
  have k2 := cell_of_row w8 w.heap.size 2 _ _ _ r1
  have kf : ∀ j, w8.frozen? ⟨w.heap.size, j, none⟩ = false := (by intro j; unfold World.frozen?; rw [r1]; simp)
  simp at k2
  have R1 := Lib.hid r1
  have E8 := Lib.hid e1
  have HP8 := Lib.hid st1
  have HT8 := Lib.hid (show StrsX x w8 (.slice ta ts.length tc) ts from HT6.out.ex e1 (fun k hk e => by have := HXW.out k hk; omega))
  clear r1 e1 st1
  generalize hps : ps.take 15 = ps' at *
  have HPS := Lib.hid hps
  clear hps
  go_upto_if 19 with fail
  go_cut [] from 4 (fun wx => ∃ ra rc, wx.heap[w.heap.size]? = some (.cells #[.string nm, .slice qa ps'.length qc, .slice ra (ts.take 15).length rc, .int .i64 pr, .slice a6 fk.length c6, .int .i64 at_] 25 (0, 0)) ∧ StrsX x wx (.slice ra (ts.take 15).length rc) (ts.take 15) ∧ Ex (fun k => k = w.heap.size) w8 wx)
  case first =>
    by_cases h9 : 15 < ts.length
    · have hd9 : decide ((15 : Int) < (ts.length : Int)) = true := decide_eq_true (by omega)
      obtain ⟨pv, hpv, hrun⟩ := strs_head HT8.out 15 (by omega)
      obtain ⟨ra, rc, rfl, -⟩ := id hpv
      have HPV := Lib.hid hpv
      have HTL : Hid ((ts.take 15).length = 15) := Lib.hid (by rw [List.length_take]; omega)
      rw [HTL.out] at hrun
      have hrun' : ∀ W, (Instr.slice 22 (.slice ta ts.length tc) none (some (.int .i64 15)) none).run Try.prog W = .ok (.slice ra 15 rc) W := hrun
      clear hpv hrun
      go_wp2_with fail
      go_meet
      case rel =>
        rw [HTL.out]
        have h9' := HPV.out
        rw [HTL.out] at h9'
        exact ⟨ra, rc, heap_set (i := 2) R1.out (.slice ra 15 rc), h9'.ex (Ex.set (p := w.heap.size) (o := 2) w8 (.slice ra 15 rc)) (fun k hk e => by have := HXW.out k hk; omega), Ex.set w8 _⟩
    · have hd9 : decide ((15 : Int) < (ts.length : Int)) = false := decide_eq_false (by omega)
      have HTL : Hid (ts.take 15 = ts) := Lib.hid (List.take_of_length_le (by omega))
      go_wp2_with fail
      go_meet
      case rel =>
        rw [HTL.out]
        exact ⟨ta, tc, R1.out, HT8.out, Ex.refl _ _⟩
  obtain ⟨ra, rc, r2, st2, e2⟩ := hcut
  generalize hts : ts.take 15 = ts' at *
  have HTS := Lib.hid hts
  clear hts
  have hs9 : StrsX x wc (.slice qa ps'.length qc) ps' := HP8.out.ex e2 (fun k hk e => by have := HXW.out k hk; omega)
  have e69 := E8.out.trans e2
  have t9 := (e69.block (w.heap.size + 1) (by omega) (by omega)).trans T1.out
  have hn9 := HN6.out.ex e69 (fun k hk e => by
    rcases hk with hk | hk
    · have := HXW.out k hk; omega
    · omega)
  have hb9 := HB6.out.trans (e69.below (fun k hk e => by omega) (by omega))
  clear k2 kf
  have y0 := cell_of_row wc w.heap.size 0 _ _ _ r2
  have y1 := cell_of_row wc w.heap.size 1 _ _ _ r2
  have y2 := cell_of_row wc w.heap.size 2 _ _ _ r2
  have y3 := cell_of_row wc w.heap.size 3 _ _ _ r2
  have y4 := cell_of_row wc w.heap.size 4 _ _ _ r2
  have y5 := cell_of_row wc w.heap.size 5 _ _ _ r2
  have u0 := cell_of_row wc (w.heap.size + 1) 0 _ _ _ t9
  have u1 := cell_of_row wc (w.heap.size + 1) 1 _ _ _ t9
  have u2 := cell_of_row wc (w.heap.size + 1) 2 _ _ _ t9
  have u3 := cell_of_row wc (w.heap.size + 1) 3 _ _ _ t9
  have u4 := cell_of_row wc (w.heap.size + 1) 4 _ _ _ t9
  have u5 := cell_of_row wc (w.heap.size + 1) 5 _ _ _ t9
  have uf : ∀ j, wc.frozen? ⟨w.heap.size + 1, j, none⟩ = false := (by intro j; unfold World.frozen?; rw [t9]; simp)
  simp at y0 y1 y2 y3 y4 y5 u0 u1 u2 u3 u4 u5
  have T9 := Lib.hid t9
  have S9 := Lib.hid hs9
  have N9 := Lib.hid hn9
  have B9 := Lib.hid hb9
  have ST2 := Lib.hid st2
  clear t9 hs9 hn9 hb9 st2 r2 e2 e69
  go_wp2_with fail
  refine bodyPost_ret (v := .agg #[.string nm, .slice qa ps'.length qc, .slice ra ts'.length rc, .int .i64 pr, .slice a6 fk.length c6, .int .i64 at_]) (results_cell_row Try.results5 _ _ (w.heap.size + 1) 25 #[.string nm, .slice qa ps'.length qc, .slice ra ts'.length rc, .int .i64 pr, .slice a6 fk.length c6, .int .i64 at_] (0, 0) _ rfl (heap_set6 T9.out _ _ _ _ _ _) Try.underlying25 rfl (by kernel_rfl)) rfl ?_
  have hbF := (((((B9.out.setCell (by show _ ≤ w.heap.size + 1; omega) (.string nm) (p := ⟨w.heap.size + 1, 0, none⟩)).setCell (by show _ ≤ w.heap.size + 1; omega) (.slice qa ps'.length qc) (p := ⟨w.heap.size + 1, 1, none⟩)).setCell (by show _ ≤ w.heap.size + 1; omega) (.slice ra ts'.length rc) (p := ⟨w.heap.size + 1, 2, none⟩)).setCell (by show _ ≤ w.heap.size + 1; omega) (.int .i64 pr) (p := ⟨w.heap.size + 1, 3, none⟩)).setCell (by show _ ≤ w.heap.size + 1; omega) (.slice a6 fk.length c6) (p := ⟨w.heap.size + 1, 4, none⟩)).setCell (by show _ ≤ w.heap.size + 1; omega) (.int .i64 at_) (p := ⟨w.heap.size + 1, 5, none⟩)
  have hEF : Ex (fun k => k = w.heap.size + 1) wc ((((((wc.setCell ⟨w.heap.size + 1, 0, none⟩ (.string nm)).setCell ⟨w.heap.size + 1, 1, none⟩ (.slice qa ps'.length qc)).setCell ⟨w.heap.size + 1, 2, none⟩ (.slice ra ts'.length rc)).setCell ⟨w.heap.size + 1, 3, none⟩ (.int .i64 pr)).setCell ⟨w.heap.size + 1, 4, none⟩ (.slice a6 fk.length c6)).setCell ⟨w.heap.size + 1, 5, none⟩ (.int .i64 at_)) := (((((Ex.set wc _).trans (Ex.set _ _)).trans (Ex.set _ _)).trans (Ex.set _ _)).trans (Ex.set _ _)).trans (Ex.set _ _)
  have hne : ∀ k, x k → ¬ k = w.heap.size + 1 := fun k hk e => by have := HXW.out k hk; omega
  refine ⟨_, _, _, rfl, ?_, ?_, ?_, hbF⟩
  · rw [HPS.out]
    exact (S9.out.ex hEF hne).weak fun b hb => Or.inl hb
  · rw [HTS.out]
    exact (ST2.out.ex hEF hne).weak fun b hb => Or.inl hb
  · rw [HFK.out]
    refine (N9.out.ex hEF fun k hk e => ?_).weak fun b hb => hb.imp id fun h => by omega
    rcases hk with hk | hk
    · exact hne k hk e
    · omega
end Go.Proofs.Ytpfgidhchjcomaa
