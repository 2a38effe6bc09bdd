/- Resolve, of a method that Check refuses. -/
import Derived.Test.YtpfgidhchjcomaaMeAny
import Derived.Test.YtpfgidhchjcomaaMeCheckB
namespace Go.Proofs.Ytpfgidhchjcomaa
open Go.RowKit
set_option linter.unusedVariables false
theorem results_three {P : Program} {fn : Func} {a b c : Tmp} {T1 T2 T3 : TypeId} (h : fn.results = #[.cell a T1, .cell b T2, .cell c T3]) (tmps : Array Value) (w : World) (p1 p2 p3 : Addr) (v1 v2 v3 : Value) (h1 : tmps.getD a undef = .pointer (some p1)) (h2 : tmps.getD b undef = .pointer (some p2)) (h3 : tmps.getD c undef = .pointer (some p3))
    (l1 : (loadVar T1 p1).run P w = .ok v1 w) (l2 : (loadVar T2 p2).run P w = .ok v2 w) (l3 : (loadVar T3 p3).run P w = .ok v3 w) : (results fn tmps).run P w = .ok (.tuple #[v1, v2, v3]) w := by
  have h1' : tmps[a]?.getD undef = .pointer (some p1) := by simpa using h1
  have h2' : tmps[b]?.getD undef = .pointer (some p2) := by simpa using h2
  have h3' : tmps[c]?.getD undef = .pointer (some p3) := by simpa using h3
  simp [results, h, h1', h2', h3', asAddr, l1, l2, l3]
theorem load_int (w : World) (q : Addr) (v : Value) (h : w.cell? q = some v) : (loadVar 3 q).run Try.prog w = .ok v w := by
  have hu := Try.underlying3
  simp [loadVar, h]
theorem load_errno (w : World) (q : Addr) (v : Value) (h : w.cell? q = some v) : (loadVar 36 q).run Try.prog w = .ok v w := by
  have hu := Try.underlying36
  simp [loadVar, h]
set_option maxRecDepth 100000 in
set_option maxHeartbeats 4000000 in
theorem resolve_bad (x : Nat → Prop) (d : Nat) (nm : ByteArray) (pv tv : Value) (ps ts : List ByteArray) (pr : Int) (v fv gv : Value) (at_ : Int) (l : List Nd) (w : World) (hd : d < 900) (hp : StrsX x w pv ps) (ht : StrsX x w tv ts) (h : NodesX x (d + 1) w v l) (hbad : checkM d nm ps ts pr l ≠ 0) :
    Calls Try.prog 4 #[.agg #[.string nm, pv, tv, .int .i64 pr, v, .int .i64 at_], fv, gv] w fun e w' => e = .returned (.tuple #[.agg #[.string ⟨#[]⟩, .int .i64 0, .int .i64 0, .int .i64 0, .slice none 0 0], .int .i64 at_, .int .i64 (checkM d nm ps ts pr l)]) ∧ Below w.heap.size w w' := by
  obtain ⟨pa, pc, rfl, -⟩ := id hp
  obtain ⟨ta, tc, rfl, -⟩ := id ht
  obtain ⟨va, vc, rfl, -⟩ := id h.shape
  have CA := Lib.hid (fun W (hW : Below w.heap.size w W) => check_any x d nm _ _ ps ts pr _ at_ l W hd (hp.later hW) (ht.later hW) (h.later hW))
  generalize checkM d nm ps ts pr l = c at *
  clear hp ht h
  have hb0 : Below w.heap.size w ((((w.alloc (.cells #[.string nm, .slice pa ps.length pc, .slice ta ts.length tc, .int .i64 pr, .slice va l.length vc, .int .i64 at_] 32)).alloc (.cells #[.string ⟨#[]⟩, .int .i64 0, .int .i64 0, .int .i64 0, .slice none 0 0] 35)).alloc (.cells #[.int .i64 0] 3)).alloc (.cells #[.int .i64 0] 36)) := ((((Below.refl _ _).alloc (Nat.le_refl _) _).alloc (by simp) _).alloc (by simp; omega) _).alloc (by simp; omega) _
  have hq0 : ((((w.alloc (.cells #[.string nm, .slice pa ps.length pc, .slice ta ts.length tc, .int .i64 pr, .slice va l.length vc, .int .i64 at_] 32)).alloc (.cells #[.string ⟨#[]⟩, .int .i64 0, .int .i64 0, .int .i64 0, .slice none 0 0] 35)).alloc (.cells #[.int .i64 0] 3)).alloc (.cells #[.int .i64 0] 36)).heap[w.heap.size]? = some (.cells #[.string nm, .slice pa ps.length pc, .slice ta ts.length tc, .int .i64 pr, .slice va l.length vc, .int .i64 at_] 32 (0, 0)) := (heap_alloc_old _ _ _ (by first | (simp; done) | (simp; omega))).trans ((heap_alloc_old _ _ _ (by first | (simp; done) | (simp; omega))).trans ((heap_alloc_old _ _ _ (by simp)).trans (heap_alloc_new w _)))
  have hq1 : ((((w.alloc (.cells #[.string nm, .slice pa ps.length pc, .slice ta ts.length tc, .int .i64 pr, .slice va l.length vc, .int .i64 at_] 32)).alloc (.cells #[.string ⟨#[]⟩, .int .i64 0, .int .i64 0, .int .i64 0, .slice none 0 0] 35)).alloc (.cells #[.int .i64 0] 3)).alloc (.cells #[.int .i64 0] 36)).heap[w.heap.size + 1]? = some (.cells #[.string ⟨#[]⟩, .int .i64 0, .int .i64 0, .int .i64 0, .slice none 0 0] 35 (0, 0)) := (heap_alloc_old _ _ _ (by first | (simp; done) | (simp; omega))).trans ((heap_alloc_old _ _ _ (by first | (simp; done) | (simp; omega))).trans (heap_alloc2_new w _ _))
  have hq2 : ((((w.alloc (.cells #[.string nm, .slice pa ps.length pc, .slice ta ts.length tc, .int .i64 pr, .slice va l.length vc, .int .i64 at_] 32)).alloc (.cells #[.string ⟨#[]⟩, .int .i64 0, .int .i64 0, .int .i64 0, .slice none 0 0] 35)).alloc (.cells #[.int .i64 0] 3)).alloc (.cells #[.int .i64 0] 36)).heap[w.heap.size + 2]? = some (.cells #[.int .i64 0] 3 (0, 0)) := by
    have := heap_alloc_new ((w.alloc (.cells #[.string nm, .slice pa ps.length pc, .slice ta ts.length tc, .int .i64 pr, .slice va l.length vc, .int .i64 at_] 32)).alloc (.cells #[.string ⟨#[]⟩, .int .i64 0, .int .i64 0, .int .i64 0, .slice none 0 0] 35)) (.cells #[.int .i64 0] 3)
    refine (heap_alloc_old _ _ _ (by simp)).trans ?_
    simpa using this
  have hq3 : ((((w.alloc (.cells #[.string nm, .slice pa ps.length pc, .slice ta ts.length tc, .int .i64 pr, .slice va l.length vc, .int .i64 at_] 32)).alloc (.cells #[.string ⟨#[]⟩, .int .i64 0, .int .i64 0, .int .i64 0, .slice none 0 0] 35)).alloc (.cells #[.int .i64 0] 3)).alloc (.cells #[.int .i64 0] 36)).heap[w.heap.size + 3]? = some (.cells #[.int .i64 0] 36 (0, 0)) := by
    have := heap_alloc_new (((w.alloc (.cells #[.string nm, .slice pa ps.length pc, .slice ta ts.length tc, .int .i64 pr, .slice va l.length vc, .int .i64 at_] 32)).alloc (.cells #[.string ⟨#[]⟩, .int .i64 0, .int .i64 0, .int .i64 0, .slice none 0 0] 35)).alloc (.cells #[.int .i64 0] 3)) (.cells #[.int .i64 0] 36)
    simpa using this
  have hsz0 : ((((w.alloc (.cells #[.string nm, .slice pa ps.length pc, .slice ta ts.length tc, .int .i64 pr, .slice va l.length vc, .int .i64 at_] 32)).alloc (.cells #[.string ⟨#[]⟩, .int .i64 0, .int .i64 0, .int .i64 0, .slice none 0 0] 35)).alloc (.cells #[.int .i64 0] 3)).alloc (.cells #[.int .i64 0] 36)).heap.size = w.heap.size + 4 := by simp
  go_enter Try.func4, Try.ntmps4
  go_upto_region 1 with fail
  generalize ((((w.alloc (.cells #[.string nm, .slice pa ps.length pc, .slice ta ts.length tc, .int .i64 pr, .slice va l.length vc, .int .i64 at_] 32)).alloc (.cells #[.string ⟨#[]⟩, .int .i64 0, .int .i64 0, .int .i64 0, .slice none 0 0] 35)).alloc (.cells #[.int .i64 0] 3)).alloc (.cells #[.int .i64 0] 36)) = w0 at *
  have HB0 := Lib.hid hb0
  have n0 := cell_of_row w0 w.heap.size 0 _ _ _ hq0
  have n1 := cell_of_row w0 w.heap.size 1 _ _ _ hq0
  have n2 := cell_of_row w0 w.heap.size 2 _ _ _ hq0
  have n3 := cell_of_row w0 w.heap.size 3 _ _ _ hq0
  have n4 := cell_of_row w0 w.heap.size 4 _ _ _ hq0
  have n5 := cell_of_row w0 w.heap.size 5 _ _ _ hq0
  simp at n0 n1 n2 n3 n4 n5
  have Q0 := Lib.hid hq0
  have Q1 := Lib.hid hq1
  have Q2 := Lib.hid hq2
  have Q3 := Lib.hid hq3
  clear hb0 hq0 hq1 hq2 hq3
  go_wp2_with fail
  refine (CA.out _ HB0.out).mono ?_
  rintro e w5 ⟨rfl, h5⟩
  have H5 := Lib.hid h5
  have z5 := h5.size
  have p0 := (h5.block w.heap.size (by omega)).trans Q0.out
  have p1 := (h5.block (w.heap.size + 1) (by omega)).trans Q1.out
  have p2 := (h5.block (w.heap.size + 2) (by omega)).trans Q2.out
  have p3 := (h5.block (w.heap.size + 3) (by omega)).trans Q3.out
  have P1 := Lib.hid p1
  have P2 := Lib.hid p2
  have P3 := Lib.hid p3
  have m5 := cell_of_row w5 w.heap.size 5 _ _ _ p0
  have f1 : ∀ j, w5.frozen? ⟨w.heap.size + 1, j, none⟩ = false := (by intro j; unfold World.frozen?; rw [p1]; simp)
  have f2 : w5.frozen? ⟨w.heap.size + 2, 0, none⟩ = false := (by unfold World.frozen?; rw [p2]; simp)
  have f3 : w5.frozen? ⟨w.heap.size + 3, 0, none⟩ = false := (by unfold World.frozen?; rw [p3]; simp)
  have k0 := cell_of_row w5 (w.heap.size + 1) 0 _ _ _ p1
  have k1 := cell_of_row w5 (w.heap.size + 1) 1 _ _ _ p1
  have k2 := cell_of_row w5 (w.heap.size + 1) 2 _ _ _ p1
  have k3 := cell_of_row w5 (w.heap.size + 1) 3 _ _ _ p1
  have k4 := cell_of_row w5 (w.heap.size + 1) 4 _ _ _ p1
  have g2 := cell_of_row w5 (w.heap.size + 2) 0 _ _ _ p2
  have g3 := cell_of_row w5 (w.heap.size + 3) 0 _ _ _ p3
  simp at m5 k0 k1 k2 k3 k4 g2 g3
  clear h5 p0 p1 p2 p3 n0 n1 n2 n3 n4 n5
  go_upto_region 3 with fail
  go_region
  go_wp2_with fail
  have x1 : (((((((w5.setCell ⟨w.heap.size + 1, 0, none⟩ (.string ⟨#[]⟩)).setCell ⟨w.heap.size + 1, 1, none⟩ (.int .i64 0)).setCell ⟨w.heap.size + 1, 2, none⟩ (.int .i64 0)).setCell ⟨w.heap.size + 1, 3, none⟩ (.int .i64 0)).setCell ⟨w.heap.size + 1, 4, none⟩ (.slice none 0 0)).setCell ⟨w.heap.size + 1 + 1, 0, none⟩ (.int .i64 at_)).setCell ⟨w.heap.size + 1 + 1 + 1, 0, none⟩ (.int .i64 c)).heap[w.heap.size + 1]? = some (.cells #[.string ⟨#[]⟩, .int .i64 0, .int .i64 0, .int .i64 0, .slice none 0 0] 35 (0, 0)) := (heap_set_far (by omega)).trans ((heap_set_far (by omega)).trans (heap_set5 P1.out _ _ _ _ _))
  have y2 : (((((w5.setCell ⟨w.heap.size + 1, 0, none⟩ (.string ⟨#[]⟩)).setCell ⟨w.heap.size + 1, 1, none⟩ (.int .i64 0)).setCell ⟨w.heap.size + 1, 2, none⟩ (.int .i64 0)).setCell ⟨w.heap.size + 1, 3, none⟩ (.int .i64 0)).setCell ⟨w.heap.size + 1, 4, none⟩ (.slice none 0 0)).heap[w.heap.size + 1 + 1]? = some (.cells #[.int .i64 0] 3 (0, 0)) := (heap_set_far (by omega)).trans ((heap_set_far (by omega)).trans ((heap_set_far (by omega)).trans ((heap_set_far (by omega)).trans ((heap_set_far (by omega)).trans P2.out))))
  have y3 : ((((((w5.setCell ⟨w.heap.size + 1, 0, none⟩ (.string ⟨#[]⟩)).setCell ⟨w.heap.size + 1, 1, none⟩ (.int .i64 0)).setCell ⟨w.heap.size + 1, 2, none⟩ (.int .i64 0)).setCell ⟨w.heap.size + 1, 3, none⟩ (.int .i64 0)).setCell ⟨w.heap.size + 1, 4, none⟩ (.slice none 0 0)).setCell ⟨w.heap.size + 1 + 1, 0, none⟩ (.int .i64 at_)).heap[w.heap.size + 1 + 1 + 1]? = some (.cells #[.int .i64 0] 36 (0, 0)) := (heap_set_far (by omega)).trans ((heap_set_far (by omega)).trans ((heap_set_far (by omega)).trans ((heap_set_far (by omega)).trans ((heap_set_far (by omega)).trans ((heap_set_far (by omega)).trans P3.out)))))
  have x2 : (((((((w5.setCell ⟨w.heap.size + 1, 0, none⟩ (.string ⟨#[]⟩)).setCell ⟨w.heap.size + 1, 1, none⟩ (.int .i64 0)).setCell ⟨w.heap.size + 1, 2, none⟩ (.int .i64 0)).setCell ⟨w.heap.size + 1, 3, none⟩ (.int .i64 0)).setCell ⟨w.heap.size + 1, 4, none⟩ (.slice none 0 0)).setCell ⟨w.heap.size + 1 + 1, 0, none⟩ (.int .i64 at_)).setCell ⟨w.heap.size + 1 + 1 + 1, 0, none⟩ (.int .i64 c)).cell? ⟨w.heap.size + 1 + 1, 0, none⟩ = some (.int .i64 at_) := cell_of_row _ _ 0 _ _ _ ((heap_set_far (by omega)).trans (heap_set (i := 0) y2 (.int .i64 at_)))
  have x3 : (((((((w5.setCell ⟨w.heap.size + 1, 0, none⟩ (.string ⟨#[]⟩)).setCell ⟨w.heap.size + 1, 1, none⟩ (.int .i64 0)).setCell ⟨w.heap.size + 1, 2, none⟩ (.int .i64 0)).setCell ⟨w.heap.size + 1, 3, none⟩ (.int .i64 0)).setCell ⟨w.heap.size + 1, 4, none⟩ (.slice none 0 0)).setCell ⟨w.heap.size + 1 + 1, 0, none⟩ (.int .i64 at_)).setCell ⟨w.heap.size + 1 + 1 + 1, 0, none⟩ (.int .i64 c)).cell? ⟨w.heap.size + 1 + 1 + 1, 0, none⟩ = some (.int .i64 c) := cell_of_row _ _ 0 _ _ _ (heap_set (i := 0) y3 (.int .i64 c))
  have hb : Below w.heap.size w (((((((w5.setCell ⟨w.heap.size + 1, 0, none⟩ (.string ⟨#[]⟩)).setCell ⟨w.heap.size + 1, 1, none⟩ (.int .i64 0)).setCell ⟨w.heap.size + 1, 2, none⟩ (.int .i64 0)).setCell ⟨w.heap.size + 1, 3, none⟩ (.int .i64 0)).setCell ⟨w.heap.size + 1, 4, none⟩ (.slice none 0 0)).setCell ⟨w.heap.size + 1 + 1, 0, none⟩ (.int .i64 at_)).setCell ⟨w.heap.size + 1 + 1 + 1, 0, none⟩ (.int .i64 c)) := (((((((HB0.out.trans (H5.out.mono HB0.out.size)).setCell (by show _ ≤ w.heap.size + 1; omega) _).setCell (by show _ ≤ w.heap.size + 1; omega) _).setCell (by show _ ≤ w.heap.size + 1; omega) _).setCell (by show _ ≤ w.heap.size + 1; omega) _).setCell (by show _ ≤ w.heap.size + 1; omega) _).setCell (by show _ ≤ w.heap.size + 1 + 1; omega) _).setCell (by show _ ≤ w.heap.size + 1 + 1 + 1; omega) _
  generalize (((((((w5.setCell ⟨w.heap.size + 1, 0, none⟩ (.string ⟨#[]⟩)).setCell ⟨w.heap.size + 1, 1, none⟩ (.int .i64 0)).setCell ⟨w.heap.size + 1, 2, none⟩ (.int .i64 0)).setCell ⟨w.heap.size + 1, 3, none⟩ (.int .i64 0)).setCell ⟨w.heap.size + 1, 4, none⟩ (.slice none 0 0)).setCell ⟨w.heap.size + 1 + 1, 0, none⟩ (.int .i64 at_)).setCell ⟨w.heap.size + 1 + 1 + 1, 0, none⟩ (.int .i64 c)) = wF at *
  have x1' : wF.drew.heap[w.heap.size + 1]? = _ := x1
  have x2' : wF.drew.cell? ⟨w.heap.size + 1 + 1, 0, none⟩ = _ := x2
  have x3' : wF.drew.cell? ⟨w.heap.size + 1 + 1 + 1, 0, none⟩ = _ := x3
  exact bodyPost_ret (v := .tuple #[.agg #[.string ⟨#[]⟩, .int .i64 0, .int .i64 0, .int .i64 0, .slice none 0 0], .int .i64 at_, .int .i64 c]) (results_three Try.results4 _ _ ⟨w.heap.size + 1, 0, none⟩ ⟨w.heap.size + 1 + 1, 0, none⟩ ⟨w.heap.size + 1 + 1 + 1, 0, none⟩ _ _ _ rfl rfl rfl (run_loadVar_row _ _ 35 _ _ (0, 0) _ x1' Try.underlying35 rfl (by kernel_rfl)) (load_int _ _ _ x2') (load_errno _ _ _ x3')) rfl ⟨rfl, hb.drew⟩
end Go.Proofs.Ytpfgidhchjcomaa
