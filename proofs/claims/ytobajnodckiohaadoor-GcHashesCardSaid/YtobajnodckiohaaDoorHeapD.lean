/- Memory as the program has it: a new one; how much is used and free. Memory: a head is laid. Memory: an object's place; what stands at a place; a word of it. Memory: a word of an object; a new object. -/
import Derived.Test.YtobajnodckiohaaDoorHeadB
import Derived.Test.YtobajnodckiohaaDoorPackHas
import Derived.Deep.RegionWith
import Derived.Test.YtobajnodckiohaaDoorHeadD
import Derived.Laws.IdiomCopy
import Derived.Laws.Cover3
namespace Go.Proofs.YtobajnodckiohaaDoor
open Go.RowKit
set_option linter.unusedVariables false
theorem BitsAt.keeps {w w' : World} {B b n : Nat} {S : Nat → Bool} {T : TypeId} (h : BitsAt w B b n S) (hk : KeepsBut T w w') (h1 : 117 ≠ T) (h2 : 37 ≠ T) : BitsAt w' B b n S := by
  obtain ⟨g', cap, m, ws, f, k1, k2, k3, k4, k5, k6, k7, k8, k9⟩ := h
  exact ⟨g', cap, m, ws, f, k1, k2, k3, k4, by rw [hk b _ _ _ k5 h1]; exact k5, k6, k7, hk.row k8 h2, k9⟩
theorem cellInfo : (Tryd.prog.info? 38).map (fun i => (i.zero, i.size, i.bytes)) = some (some (.int .u64 0), 1, 8) := by kernel_rfl
/-- memory of the call's own: n cells, what they hold, the first free one, where objects begin -/
def HeapAt (w : World) (B h N free : Nat) (S : Nat → Bool) (M : Nat → Nat) : Prop :=
  ∃ g s, B ≤ h ∧ B ≤ g ∧ N ≤ 16777216 ∧ 16 ≤ N ∧ free ≤ N ∧ w.heap[h]? = some (.cells #[.slice (some ⟨g, 0, none⟩) N N, .int .i64 (free : Int), .pointer (some ⟨s, 0, none⟩), .int .u32 (M 16777216 : Int)] 72 (0, 0)) ∧
    w.rowIs g 38 N (fun i => .int .u64 (M i : Int)) ∧ (∀ i, M i < 18446744073709551616) ∧ BitsAt w B s N S
theorem HeapAt.later {w w' : World} {B h N free : Nat} {S : Nat → Bool} {M : Nat → Nat} (H : HeapAt w B h N free S M) (hb : Below w.heap.size w w') : HeapAt w' B h N free S M := by
  obtain ⟨g, s, h1, h2, h3, h3', h4, h5, h6, h7, h8⟩ := H
  exact ⟨g, s, h1, h2, h3, h3', h4, by rw [hb.block h (Array.getElem?_eq_some_iff.1 h5).1]; exact h5, h6.of_block (hb.block g h6.lt), h7, h8.later hb⟩
/-- the blocks of this memory lie below C -/
def HeapLt (w : World) (h C : Nat) : Prop :=
  ∃ (g s r N N' m c : Nat) (x1 x3 y0 : Value) (cg : Array Value), w.heap[h]? = some (.cells #[.slice (some ⟨g, 0, none⟩) N N', x1, .pointer (some ⟨s, 0, none⟩), x3] 72 (0, 0)) ∧
    w.heap[s]? = some (.cells #[y0, .slice (some ⟨r, 0, none⟩) m c] 117 (0, 0)) ∧ w.heap[g]? = some (.cells cg 38 (0, 0)) ∧ h < C ∧ g < C ∧ s < C ∧ r < C
/-- what lies behind this memory's own blocks is as it was -/
def Stays (h : Nat) (w w' : World) : Prop := w.heap.size ≤ w'.heap.size ∧ ∀ C, HeapLt w h C → HeapLt w' h C ∧ ∀ q, C ≤ q → q < w.heap.size → w'.heap[q]? = w.heap[q]?
theorem Stays.refl (h : Nat) (w : World) : Stays h w w := ⟨Nat.le_refl _, fun _ hl => ⟨hl, fun _ _ _ => rfl⟩⟩
theorem Stays.trans {h : Nat} {a b c : World} (x : Stays h a b) (y : Stays h b c) : Stays h a c :=
  ⟨Nat.le_trans x.1 y.1, fun C hl => ⟨(y.2 C (x.2 C hl).1).1, fun q h1 h2 => ((y.2 C (x.2 C hl).1).2 q h1 (Nat.lt_of_lt_of_le h2 x.1)).trans ((x.2 C hl).2 q h1 h2)⟩⟩
theorem HeapLt.same {w w' : World} {h C : Nat} (hl : HeapLt w h C) (he : ∀ (q : Nat) (c : Array Value) (T : TypeId) (fr : Nat × Nat), w.heap[q]? = some (Obj.cells c T fr) → T ≠ 37 → w'.heap[q]? = w.heap[q]?) : HeapLt w' h C := by
  obtain ⟨g, s, r, N, N', m, c, x1, x3, y0, cg, h1, h2, h3, h4⟩ := hl
  exact ⟨g, s, r, N, N', m, c, x1, x3, y0, cg, (he _ _ _ _ h1 (by decide)).trans h1, (he _ _ _ _ h2 (by decide)).trans h2, (he _ _ _ _ h3 (by decide)).trans h3, h4⟩
theorem Stays.below {h : Nat} {w w' : World} (hb : Below w.heap.size w w') : Stays h w w' :=
  ⟨hb.size, fun _ hl => ⟨hl.same fun q _ _ _ hq _ => hb.block q (Array.getElem?_eq_some_iff.1 hq).1, fun q _ hq => hb.block q hq⟩⟩
theorem Stays.of_heap {h : Nat} {w w' : World} (hh : w'.heap = w.heap) : Stays h w w' :=
  ⟨by rw [hh]; exact Nat.le_refl _, fun _ hl => ⟨hl.same fun q _ _ _ _ _ => by rw [hh], fun q _ _ => by rw [hh]⟩⟩
theorem Stays.setG {h g i N N' : Nat} {w : World} {v : Value} (hc : w.cell? ⟨h, 0, none⟩ = some (.slice (some ⟨g, 0, none⟩) N N')) : Stays h w (w.setCell ⟨g, i, none⟩ v) := by
  refine ⟨by simp [World.setCell], fun C hl => ?_⟩
  obtain ⟨g', s, r, n, n', m, c, x1, x3, y0, cg, h1, h2, h3, h4, h5, h6, h7⟩ := hl
  have : g' = g := by simp [World.cell?, h1] at hc; exact hc.1
  subst this
  have n1 : h ≠ g' := fun e => by subst e; rw [h1] at h3; simp at h3
  have n2 : s ≠ g' := fun e => by subst e; rw [h2] at h3; simp at h3
  refine ⟨⟨g', s, r, n, n', m, c, x1, x3, y0, _, (Below.heap_setCell _ _ _ _ n1).trans h1, (Below.heap_setCell _ _ _ _ n2).trans h2, heap_setCell_same w g' i _ _ _ h3, h4, h5, h6, h7⟩, fun q hq _ => Below.heap_setCell _ _ _ _ (by show q ≠ g'; omega)⟩
theorem Stays.setH {h : Nat} {w : World} {v : Value} : Stays h w (w.setCell ⟨h, 1, none⟩ v) := by
  refine ⟨by simp [World.setCell], fun C hl => ?_⟩
  obtain ⟨g', s, r, n, n', m, c, x1, x3, y0, cg, h1, h2, h3, h4, h5, h6, h7⟩ := hl
  have n1 : g' ≠ h := fun e => by subst e; rw [h1] at h3; simp at h3
  have n2 : s ≠ h := fun e => by subst e; rw [h1] at h2; simp at h2
  exact ⟨⟨g', s, r, n, n', m, c, v, x3, y0, _, heap_setCell_same w h 1 _ _ _ h1, (Below.heap_setCell _ _ _ _ n2).trans h2, (Below.heap_setCell _ _ _ _ n1).trans h3, h4, h5, h6, h7⟩, fun q hq _ => Below.heap_setCell _ _ _ _ (by show q ≠ h; omega)⟩
theorem Stays.bits {h s : Nat} {w w' : World} (hc : w.cell? ⟨h, 2, none⟩ = some (.pointer (some ⟨s, 0, none⟩))) (hz : w.heap.size ≤ w'.heap.size) (hk : KeepsBut 37 w w')
    (ho : ∀ q, (∀ r m c, w.cell? ⟨s, 1, none⟩ = some (.slice (some ⟨r, 0, none⟩) m c) → q ≠ r) → w'.heap[q]? = w.heap[q]?) : Stays h w w' := by
  refine ⟨hz, fun C hl => ⟨hl.same fun q c T fr hq hT => hk q c T fr hq hT, ?_⟩⟩
  obtain ⟨g', s', r, n, n', m, c, x1, x3, y0, cg, h1, h2, h3, h4, h5, h6, h7⟩ := hl
  have : s' = s := by simp [World.cell?, h1] at hc; exact hc
  subst this
  intro q hq _
  refine ho q fun r' m' c' hr => ?_
  simp [World.cell?, h2] at hr
  omega
theorem HeapAt.lt {w : World} {B h N free : Nat} {S : Nat → Bool} {M : Nat → Nat} (H : HeapAt w B h N free S M) : HeapLt w h w.heap.size := by
  obtain ⟨g, s, h1, h2, h3, h3', h4, h5, h6, h7, h8⟩ := H
  obtain ⟨g', cap, m, ws, f, k1, k2, k3, k4, k5, k6, k7, k8, k9⟩ := h8
  have hg := h6.lt; have hr := k8.lt
  obtain ⟨cg, hcg, -⟩ := h6
  exact ⟨g, s, g', N, N, _, cap, _, _, _, cg, h5, k5, hcg, (Array.getElem?_eq_some_iff.1 h5).1, hg, (Array.getElem?_eq_some_iff.1 k5).1, hr⟩
set_option maxRecDepth 100000 in
theorem new_no (n : Int) (hn : n < 16 ∨ 16777216 < n) (w : World) :
    Calls Tryd.prog 12 #[.int .i64 n] w fun e w' => e = .returned (.tuple #[.pointer none, .int .i64 2]) ∧ w' = w := by
  go_enter Tryd.func12, Tryd.ntmps12
  go_wp2_with fail
  all_goals (try (exfalso; go_light; omega))
  all_goals exact bodyPost_ret (v := .tuple #[.pointer none, .int .i64 2]) (by simp [results, Tryd.results12, go_sem]) rfl ⟨rfl, rfl⟩
set_option maxRecDepth 100000 in
theorem new_yes (N : Nat) (h0 : 16 ≤ N) (h1 : N ≤ 16777216) (w : World) :
    Calls Tryd.prog 12 #[.int .i64 (N : Int)] w fun e w' => ∃ h, e = .returned (.tuple #[.pointer (some ⟨h, 0, none⟩), .int .i64 0]) ∧ HeapAt w' w.heap.size h N 2 (fun _ => false) (fun _ => 0) ∧ Below w.heap.size w w' := by
  have hmk : ∀ W, (Instr.makeSlice 44 (.int .i64 (N : Int)) (.int .i64 (N : Int))).run Tryd.prog W = .ok (.slice (some ⟨W.heap.size, 0, none⟩) N N) (W.alloc (.cells (madeCells #[.int .u64 0] N) 38)) :=
    fun W => run_make_row' (P := Tryd.prog) 44 38 (.int .u64 0) 8 Tryd.underlying44 cellInfo rfl .i64 .i64 N (by omega) (by omega) W
  have hsz : sizeZ (N : Int) = N := by unfold sizeZ; omega
  have NB := Lib.hid (fun W => newBits_any (N : Int) W)
  rw [hsz] at NB
  clear hsz
  have q1 : ¬ (N : Int) < 16 := by omega
  have q2 : ¬ (16777216 : Int) < N := by omega
  go_enter Tryd.func12, Tryd.ntmps12
  go_wp2_with fail
  all_goals (try (exfalso; go_light; omega))
  go_region_with (go_at_call 36; refine (NB.out _).mono ?_; rintro e w1 ⟨rfl, hb, hg⟩; have HB := Lib.hid hb; have HG := Lib.hid hg; clear hb hg)
  · have hr : w1.rowIs w.heap.size 38 N (fun _ => .int .u64 0) := (World.rowIs_made w.drew (.int .u64 0) N 38).of_block (HG.out.block w.heap.size (by simp))
    have hb1 : Below w.heap.size w w1 := ((Below.refl _ w).drew.alloc (Nat.le_refl _) _).trans (HG.out.mono (by simp))
    have hb0 : BitsAt w1 w.heap.size (w.heap.size + 1 + 1) N (fun _ => false) := by
      have := HB.out.mono (C := w.heap.size) (by simp)
      simpa using this
    have hbb := hb0.later ((Below.refl _ w1).alloc (Nat.le_refl _) (.cells #[.slice (some ⟨w.heap.size, 0, none⟩) N N, .int .i64 2, .pointer (some ⟨w.heap.size + 1 + 1, 0, none⟩), .int .u32 0] 72))
    have hz := hb1.size
    have HR := Lib.hid hr; have HB1 := Lib.hid hb1; have HBB := Lib.hid hbb; clear hr hb1 hbb
    go_wp2_with fail
    refine bodyPost_ret (v := .tuple #[.pointer (some ⟨w1.heap.size, 0, none⟩), .int .i64 0]) (by simp [results, Tryd.results12, go_sem]) rfl ⟨_, rfl, ⟨w.heap.size, _, hz, Nat.le_refl _, h1, h0, by omega, heap_alloc_new w1 _, HR.out.alloc _, fun _ => (show 0 < 18446744073709551616 by omega), HBB.out⟩, HB1.out.alloc hz _⟩
  · have hb1 : Below w.heap.size w w1 := (Below.refl _ w).drew.trans HG.out
    have hz := hb1.size
    have hr : (w1.alloc (.cells (madeCells #[.int .u64 0] N) 38)).rowIs w1.heap.size 38 N (fun _ => .int .u64 0) := World.rowIs_made w1 (.int .u64 0) N 38
    have hbb := (HB.out.later ((Below.refl _ w1).alloc (Nat.le_refl _) (.cells (madeCells #[.int .u64 0] N) 38))).later ((Below.refl _ _).alloc (Nat.le_refl _) (.cells #[.slice (some ⟨w1.heap.size, 0, none⟩) N N, .int .i64 2, .pointer (some ⟨w.heap.size + 1, 0, none⟩), .int .u32 0] 72))
    have HR := Lib.hid hr; have HB1 := Lib.hid hb1; have HBB := Lib.hid hbb; clear hr hb1 hbb
    go_wp2_with fail
    refine bodyPost_ret (v := .tuple #[.pointer (some ⟨w1.heap.size + 1, 0, none⟩), .int .i64 0]) (by simp [results, Tryd.results12, go_sem]) rfl ⟨_, rfl, ⟨w1.heap.size, _, by omega, hz, h1, h0, by omega, ?_, HR.out.alloc _, fun _ => (show 0 < 18446744073709551616 by omega), HBB.out⟩, ?_⟩
    · have := heap_alloc_new (w1.alloc (.cells (madeCells #[.int .u64 0] N) 38)) (.cells #[.slice (some ⟨w1.heap.size, 0, none⟩) N N, .int .i64 2, .pointer (some ⟨w.heap.size + 1, 0, none⟩), .int .u32 0] 72)
      rw [show (w1.alloc (.cells (madeCells #[.int .u64 0] N) 38)).heap.size = w1.heap.size + 1 from by simp] at this
      exact this
    · exact (HB1.out.alloc hz _).alloc (by simp; omega) _
set_option maxRecDepth 100000 in
theorem free_any (B h N free : Nat) (S : Nat → Bool) (M : Nat → Nat) (w : World) (H : HeapAt w B h N free S M) :
    Calls Tryd.prog 39 #[.pointer (some ⟨h, 0, none⟩)] w fun e w' => e = .returned (.int .i64 ((N - free : Nat) : Int)) ∧ Below w.heap.size w w' := by
  obtain ⟨g, s, h1, h2, h3, h3', h4, h5, -⟩ := H
  have hl := (Array.getElem?_eq_some_iff.1 h5).1
  have c0 : w.cell? ⟨h, 0, none⟩ = some (.slice (some ⟨g, 0, none⟩) N N) := by simp [World.cell?, h5]
  have c1 : w.cell? ⟨h, 1, none⟩ = some (.int .i64 (free : Int)) := by simp [World.cell?, h5]
  clear h5
  go_enter Tryd.func39, Tryd.ntmps39
  go_wp2_with fail
  (refine wp_region_later (by kernel_rfl) (by kernel_rfl) ?_; (repeat (go_big_quiet_step ((fail)))); refine wpQuiet_nil ?_; intro w4 hw4; have hg := later_elim hw4; clear hw4)
  have HG := Lib.hid hg; clear hg
  go_wp2_with fail
  go_ret
  exact ⟨ret_int (by omega), HG.out⟩
theorem used_any (B h N free : Nat) (S : Nat → Bool) (M : Nat → Nat) (w : World) (H : HeapAt w B h N free S M) :
    Calls Tryd.prog 14 #[.pointer (some ⟨h, 0, none⟩)] w fun e w' => e = .returned (.int .i64 (free : Int)) ∧ w' = w := by
  obtain ⟨g, s, h1, h2, h3, h3', h4, h5, -⟩ := H
  have c1 : w.cell? ⟨h, 1, none⟩ = some (.int .i64 (free : Int)) := by simp [World.cell?, h5]
  clear h5
  go_enter Tryd.func14, Tryd.ntmps14
  go_wp2_with fail
  go_ret
  exact ⟨rfl, rfl⟩
end Go.Proofs.YtobajnodckiohaaDoor
namespace Go.Proofs.YtobajnodckiohaaDoor
open Go.RowKit
set_option linter.unusedVariables false
theorem cellO {w : World} {g : Nat} {cs : Array Value} {t : TypeId} {fr : Nat × Nat} (h : w.heap[g]? = some (.cells cs t fr)) (i : Nat) : w.cell? ⟨g, i, none⟩ = cs[i]? := by simp [World.cell?, h]
def put2 (M : Nat → Nat) (at_ a b : Nat) : Nat → Nat := fun i => if i = at_ then a else if i = at_ + 1 then b else M i
theorem put2_last {M : Nat → Nat} {at_ a b : Nat} (h : at_ + 2 ≤ 16777216) : put2 M at_ a b 16777216 = M 16777216 := by unfold put2; rw [if_neg (by omega), if_neg (by omega)]
set_option maxRecDepth 100000 in
theorem put_only (B h N free at_ a b : Nat) (S : Nat → Bool) (M : Nat → Nat) (w : World) (H : HeapAt w B h N free S M) (hB : B ≤ w.heap.size) (ha : at_ + 2 ≤ N) (a1 : a < 18446744073709551616) (b1 : b < 18446744073709551616) :
    Calls Tryd.prog 40 #[.pointer (some ⟨h, 0, none⟩), .int .i64 (at_ : Int), .agg #[.int .u64 (a : Int), .int .u64 (b : Int)]] w fun e w' => e = .returned (.tuple #[]) ∧ HeapAt w' B h N free S (put2 M at_ a b) ∧ Below B w w' ∧ Stays h w w' := by
  have HH := Lib.hid H
  obtain ⟨g, s, h1, h2, h3, h3', h4, h5, h6, h7, h8⟩ := H
  have hl := (Array.getElem?_eq_some_iff.1 h5).1
  have hlg := h6.lt
  have c0 : w.cell? ⟨h, 0, none⟩ = some (.slice (some ⟨g, 0, none⟩) N N) := by simp [World.cell?, h5]
  have k0 := h6.cell (i := at_) (by omega)
  have k1 := h6.cell (i := at_ + 1) (by omega)
  have f0 := h6.frozen at_
  have f1 := h6.frozen (at_ + 1)
  have HR := Lib.hid h6; have H5 := Lib.hid h5
  clear h5 h6
  have hcp : ∀ ty, (Builtin.copy_ #[44, 44] ty #[.slice (some ⟨g, at_, none⟩) (N - at_) (N - at_), .slice (some ⟨w.heap.size, 0, none⟩) 2 2]).run Tryd.prog (w.alloc (.cells #[.int .u64 (a : Int), .int .u64 (b : Int)] 95)).drew =
      .ok (goInt 2) ((w.alloc (.cells #[.int .u64 (a : Int), .int .u64 (b : Int)] 95)).drew.setCells g at_ [.int .u64 (a : Int), .int .u64 (b : Int)]) := fun ty =>
    run_copy_cells _ _ _ ty 38 g at_ (N - at_) (N - at_) ⟨w.heap.size, 0, none⟩ 2 2 [.int .u64 (a : Int), .int .u64 (b : Int)] Tryd.underlying44 (by kernel_rfl) (by show 2 = min 2 (N - at_); omega)
      (fun j v hj => by
        match j, hj with
        | 0, hj => simp at hj; subst hj; exact (cellO (heap_alloc_new w _) 0).trans rfl
        | 1, hj => simp at hj; subst hj; exact (cellO (heap_alloc_new w _) 1).trans rfl)
      (fun j hj => by
        match j, hj with
        | 0, _ => rw [show (w.alloc (.cells #[.int .u64 (a : Int), .int .u64 (b : Int)] 95)).drew.cell? ⟨g, at_ + 0, none⟩ = w.cell? ⟨g, at_, none⟩ from World.cell?_alloc_past _ g at_ hlg, k0]; rfl
        | 1, _ => rw [show (w.alloc (.cells #[.int .u64 (a : Int), .int .u64 (b : Int)] 95)).drew.cell? ⟨g, at_ + 1, none⟩ = w.cell? ⟨g, at_ + 1, none⟩ from World.cell?_alloc_past _ g (at_ + 1) hlg, k1]; rfl)
      (fun j hj => by
        have hr := (HR.out.alloc (.cells #[.int .u64 (a : Int), .int .u64 (b : Int)] 95)).drew
        exact hr.frozen _)
      (fun v hv => by simp at hv; rcases hv with rfl | rfl <;> rfl)
  have hne : ¬ N = at_ := by omega
  go_enter Tryd.func40, Tryd.ntmps40
  go_wp2_with fail
  go_region
  go_end0
  have hr1 := (((HR.out.alloc (.cells #[.int .u64 (a : Int), .int .u64 (b : Int)] 95)).drew).set at_ (.int .u64 (a : Int))).set (at_ + 1) (.int .u64 (b : Int))
  have hT : ∃ c fr, (w.alloc (.cells #[.int .u64 (a : Int), .int .u64 (b : Int)] 95)).drew.heap[g]? = some (.cells c 38 fr) := by
    obtain ⟨c, hc, -⟩ := (HR.out.alloc (.cells #[.int .u64 (a : Int), .int .u64 (b : Int)] 95)).drew; exact ⟨c, _, hc⟩
  have hT1 : ∃ c fr, ((w.alloc (.cells #[.int .u64 (a : Int), .int .u64 (b : Int)] 95)).drew.setCell ⟨g, at_, none⟩ (.int .u64 (a : Int))).heap[g]? = some (.cells c 38 fr) := by
    obtain ⟨c, hc, -⟩ := ((HR.out.alloc (.cells #[.int .u64 (a : Int), .int .u64 (b : Int)] 95)).drew).set at_ (.int .u64 (a : Int)); exact ⟨c, _, hc⟩
  have hk0 : KeepsBut 38 w (w.alloc (.cells #[.int .u64 (a : Int), .int .u64 (b : Int)] 95)).drew := KeepsBut.alloc _ _ _
  have hk := (hk0.setCell (a := ⟨g, at_, none⟩) (u := .int .u64 (a : Int)) hT).setCell (a := ⟨g, at_ + 1, none⟩) (u := .int .u64 (b : Int)) hT1
  refine ⟨rfl, ⟨g, s, h1, h2, h3, h3', h4, ?_, hr1.congr fun i hi => ?_, fun i => ?_, h8.keeps hk (by decide) (by decide)⟩, ?_, ?_⟩
  · rw [put2_last (by omega)]; exact (hk h _ _ _ H5.out (by decide)).trans H5.out
  · show (if i = at_ + 1 then _ else if i = at_ then _ else _) = _
    unfold put2
    by_cases e0 : i = at_
    · subst e0; rw [if_neg (by omega), if_pos rfl, if_pos rfl]
    · by_cases e1 : i = at_ + 1
      · rw [if_pos e1, if_neg e0, if_pos e1]
      · rw [if_neg e1, if_neg e0, if_neg e0, if_neg e1]
  · unfold put2; split
    · exact a1
    · split
      · exact b1
      · exact h7 i
  · exact ((((Below.refl _ w).alloc hB _).drew).setCell h2 _).setCell h2 _
  · have hst : Stays h w (w.alloc (.cells #[.int .u64 (a : Int), .int .u64 (b : Int)] 95)).drew := Stays.below ((Below.refl _ w).alloc (Nat.le_refl _) _).drew
    have e0 := heap_alloc_new w (.cells #[.int .u64 (a : Int), .int .u64 (b : Int)] 95)
    have c1 : (w.alloc (.cells #[.int .u64 (a : Int), .int .u64 (b : Int)] 95)).drew.cell? ⟨h, 0, none⟩ = some (.slice (some ⟨g, 0, none⟩) N N) := (World.cell?_alloc_past _ h 0 hl).trans c0
    refine (hst.trans (Stays.setG c1)).trans (Stays.setG (N := N) (N' := N) ?_)
    rw [← c1]
    exact World.cell?_of_block (a := ⟨h, 0, none⟩) (Below.heap_setCell _ _ _ _ (fun e => by
      obtain ⟨c', fr', hT'⟩ := hT
      have e' : h = g := e
      rw [← e', show (w.alloc (.cells #[.int .u64 (a : Int), .int .u64 (b : Int)] 95)).drew.heap[h]? = w.heap[h]? from Below.heap_alloc _ _ _ hl, H5.out] at hT'
      simp at hT'))
theorem put_cells (B h N free at_ a b : Nat) (S : Nat → Bool) (M : Nat → Nat) (w : World) (H : HeapAt w B h N free S M) (hB : B ≤ w.heap.size) (ha : at_ + 2 ≤ N) (a1 : a < 18446744073709551616) (b1 : b < 18446744073709551616) :
    Calls Tryd.prog 40 #[.pointer (some ⟨h, 0, none⟩), .int .i64 (at_ : Int), .agg #[.int .u64 (a : Int), .int .u64 (b : Int)]] w fun e w' => e = .returned (.tuple #[]) ∧ HeapAt w' B h N free S (put2 M at_ a b) ∧ Below B w w' :=
  (put_only B h N free at_ a b S M w H hB ha a1 b1).mono fun _ _ h => ⟨h.1, h.2.1, h.2.2.1⟩
end Go.Proofs.YtobajnodckiohaaDoor
namespace Go.Proofs.YtobajnodckiohaaDoor
open Go.RowKit
set_option linter.unusedVariables false
set_option maxRecDepth 100000 in
theorem hat_yes (B h N free a : Nat) (S : Nat → Bool) (M : Nat → Nat) (w : World) (H : HeapAt w B h N free S M) (a0 : 1 ≤ a) (a1 : a < 16777216) :
    Calls Tryd.prog 26 #[.pointer (some ⟨h, 0, none⟩), .int .u64 (a * 2 : Int)] w fun e w' => e = .returned (.tuple #[.int .i64 (a : Int), .bool (S a)]) ∧ Below w.heap.size w w' := by
  obtain ⟨g, s, h1, h2, h3, h3', h4, h5, h6, h7, h8⟩ := H
  have hl := (Array.getElem?_eq_some_iff.1 h5).1
  have c2 : w.cell? ⟨h, 2, none⟩ = some (.pointer (some ⟨s, 0, none⟩)) := by simp [World.cell?, h5]
  have A := Lib.hid (at_yes ((a : Int) * 2) (by omega) (by omega) (by omega) w)
  rw [show (a : Int) * 2 / 2 = (a : Int) by omega] at A
  have HS := Lib.hid (has_any B s N S (a : Int) w h8)
  rw [show (decide (0 ≤ (a : Int)) && S (a : Int).toNat) = S a by simp] at HS
  generalize S a = sa at *
  clear h5 h6 h8
  go_enter Tryd.func26, Tryd.ntmps26
  go_wp2_with fail
  refine A.out.mono ?_
  rintro e w1 ⟨rfl, hw⟩
  subst hw
  go_wp2_with fail
  refine HS.out.mono ?_
  rintro e w2 ⟨rfl, hg⟩
  have HG := Lib.hid hg; clear hg
  go_wp2_with fail
  exact bodyPost_ret (v := .tuple #[.int .i64 (a : Int), .bool sa]) (by simp [results, Tryd.results26, go_sem]) rfl ⟨rfl, HG.out⟩
set_option maxRecDepth 100000 in
theorem hhead_yes (B h N free at_ : Nat) (S : Nat → Bool) (M : Nat → Nat) (w : World) (H : HeapAt w B h N free S M) (ha : at_ + 2 ≤ N) (hok : UnOK (M at_) (M (at_ + 1))) :
    Calls Tryd.prog 27 #[.pointer (some ⟨h, 0, none⟩), .int .i64 (at_ : Int)] w fun e w' => e = .returned (.agg #[.int .u64 (M at_ : Int), .int .i64 (hK (M (at_ + 1))), .int .i64 (hS (M (at_ + 1))), .int .u32 (hH (M (at_ + 1))), .bool (hM (M (at_ + 1)))]) ∧ Below w.heap.size w w' := by
  obtain ⟨g, s, h1, h2, h3, h3', h4, h5, h6, h7, h8⟩ := H
  have hl := (Array.getElem?_eq_some_iff.1 h5).1
  have hlg := h6.lt
  have c0 : w.cell? ⟨h, 0, none⟩ = some (.slice (some ⟨g, 0, none⟩) N N) := by simp [World.cell?, h5]
  have k0 := h6.cell (i := at_) (by omega)
  have k1 := h6.cell (i := at_ + 1) (by omega)
  have b0 := h7 at_
  have b1 := h7 (at_ + 1)
  have U := Lib.hid (fun W => unpack_yes (M at_) (M (at_ + 1)) (by omega) (by omega) (by omega) (by omega) hok W)
  clear h5 h6 h8 hok
  generalize hK (M (at_ + 1)) = vk at *
  generalize hS (M (at_ + 1)) = vs at *
  generalize hH (M (at_ + 1)) = vh at *
  generalize hM (M (at_ + 1)) = vm at *
  have har : ∀ W : World, (Instr.arrayAt 95 (.slice (some ⟨g, at_, none⟩) 2 (N - at_))).run Tryd.prog W = .ok (.pointer (some ⟨g, at_, none⟩)) W := fun W => run_arrayAt W 95 38 2 _ _ _ Tryd.underlying95 (Nat.le_refl _)
  go_enter Tryd.func27, Tryd.ntmps27
  go_wp2_with fail
  refine (U.out _).mono ?_
  rintro e w1 ⟨rfl, hg⟩
  have hsz := hg.size
  simp at hsz
  have hlw : w.heap.size < w1.heap.size := by omega
  have hgx := Lib.hid hg
  have HG := Lib.hid (((Below.refl _ w).alloc (Nat.le_refl _) _).trans (hg.mono (by simp)) : Below w.heap.size w w1)
  have hcz : w1.heap[w.heap.size]? = some (.cells #[.int .u64 0, .int .i64 0, .int .i64 0, .int .u32 0, .bool false] 52 (0, 0)) := by
    rw [hg.block w.heap.size (by simp)]; exact heap_alloc_new w _
  have z0 : w1.cell? ⟨w.heap.size, 0, none⟩ = _ := cellO hcz 0
  have z1 : w1.cell? ⟨w.heap.size, 1, none⟩ = _ := cellO hcz 1
  have z2 : w1.cell? ⟨w.heap.size, 2, none⟩ = _ := cellO hcz 2
  have z3 : w1.cell? ⟨w.heap.size, 3, none⟩ = _ := cellO hcz 3
  have z4 : w1.cell? ⟨w.heap.size, 4, none⟩ = _ := cellO hcz 4
  have y : ∀ j, w1.frozen? ⟨w.heap.size, j, none⟩ = false := fun j => by unfold World.frozen?; rw [hcz]; cases j <;> rfl
  simp at z0 z1 z2 z3 z4
  clear hg hcz
  go_wp2_with fail
  refine bodyPost_ret (v := .agg #[.int .u64 (M at_ : Int), .int .i64 vk, .int .i64 vs, .int .u32 vh, .bool vm]) (by simp [results, Tryd.results27, go_sem, z0, z1, z2, z3, z4, hlw]) rfl ⟨rfl, ?_⟩
  have hb := HG.out
  repeat (first | with_reducible exact Below.refl _ _ | ((with_reducible refine Below.setCell ?_ ?_ _); rotate_left; focus (first | (simp; done) | (simp; omega) | omega)) | ((with_reducible refine Below.alloc ?_ ?_ _); rotate_left; focus (first | (simp; done) | (simp; omega) | omega)) | (with_reducible refine Below.drew ?_) | ((with_reducible refine Below.trans ?_ (Below.mono hb ?_)); rotate_left; focus (first | (simp; done) | (simp; omega) | omega)))
end Go.Proofs.YtobajnodckiohaaDoor
namespace Go.Proofs.YtobajnodckiohaaDoor
open Go.RowKit
set_option linter.unusedVariables false
set_option maxRecDepth 100000 in
theorem find_slot (B h N free a i : Nat) (S : Nat → Bool) (M : Nat → Nat) (w : World) (H : HeapAt w B h N free S M) (a0 : 1 ≤ a) (ha : a + 2 ≤ N) (hS' : S a = true) (hok : UnOK (M a) (M (a + 1))) (hk : hK (M (a + 1)) ≠ 2) (hi : (i : Int) < hS (M (a + 1))) :
    Calls Tryd.prog 45 #[.pointer (some ⟨h, 0, none⟩), .int .u64 (a * 2 : Int), .int .i64 (i : Int), .bool false] w fun e w' => e = .returned (.tuple #[.int .i64 ((a + 2 + i : Nat) : Int), .int .i64 0]) ∧ Below w.heap.size w w' := by
  have hN : N ≤ 16777216 := by obtain ⟨g, s, -, -, h3, -⟩ := H; exact h3
  have A := Lib.hid (hat_yes B h N free a S M w H a0 (by omega))
  rw [hS'] at A
  have HD := Lib.hid (fun W (hW : Below w.heap.size w W) => hhead_yes B h N free a S M W (H.later hW) ha hok)
  have hlim : hS (M (a + 1)) ≤ 1048576 := hok.2.2.1
  have q1 : (hK (M (a + 1)) == 2) = false := by rw [beq_eq_false_iff_ne]; exact hk
  clear H hok
  generalize hK (M (a + 1)) = vk at *
  generalize hS (M (a + 1)) = vs at *
  generalize hH (M (a + 1)) = vh at *
  generalize hM (M (a + 1)) = vm at *
  go_enter Tryd.func45, Tryd.ntmps45
  go_wp2_with fail
  refine A.out.mono ?_
  rintro e w1 ⟨rfl, hg1⟩
  have HG1 := Lib.hid hg1; clear hg1
  go_wp2_with fail
  refine (HD.out w1 HG1.out).mono ?_
  rintro e w2 ⟨rfl, hg2⟩
  have HG2 := Lib.hid (HG1.out.trans (hg2.mono HG1.out.size)); clear hg2
  go_wp2_with fail
  all_goals (try (exfalso; go_light; omega))
  refine bodyPost_ret (v := .tuple #[.int .i64 ((a + 2 + i : Nat) : Int), .int .i64 0]) (by simp [results, Tryd.results45, go_sem]) rfl ⟨rfl, ?_⟩
  exact HG2.out.alloc HG2.out.size _
set_option maxRecDepth 100000 in
theorem hget_yes (B h N free a i : Nat) (S : Nat → Bool) (M : Nat → Nat) (w : World) (H : HeapAt w B h N free S M) (a0 : 1 ≤ a) (ha : a + 2 + i < N) (hS' : S a = true) (hok : UnOK (M a) (M (a + 1))) (hk : hK (M (a + 1)) ≠ 2) (hi : (i : Int) < hS (M (a + 1))) :
    Calls Tryd.prog 50 #[.pointer (some ⟨h, 0, none⟩), .int .u64 (a * 2 : Int), .int .i64 (i : Int)] w fun e w' => e = .returned (.tuple #[.int .u64 (M (a + 2 + i) : Int), .int .i64 0]) ∧ Below w.heap.size w w' := by
  have F := Lib.hid (find_slot B h N free a i S M w H a0 (by omega) hS' hok hk hi)
  obtain ⟨g, s, h1, h2, h3, h3', h4, h5, h6, h7, h8⟩ := H
  have hl := (Array.getElem?_eq_some_iff.1 h5).1
  have hlg := h6.lt
  have c0 : w.cell? ⟨h, 0, none⟩ = some (.slice (some ⟨g, 0, none⟩) N N) := by simp [World.cell?, h5]
  have k0 := h6.cell (i := a + 2 + i) ha
  clear h5 h6 h8 hok hS' hk hi
  generalize hq : a + 2 + i = q at *
  clear hq
  go_enter Tryd.func50, Tryd.ntmps50
  go_wp2_with fail
  refine F.out.mono ?_
  rintro e w1 ⟨rfl, hg⟩
  have c0' : w1.cell? ⟨h, 0, none⟩ = _ := (hg.cell (p := ⟨h, 0, none⟩) hl).trans c0
  have k0' : w1.cell? ⟨g, q, none⟩ = _ := (hg.cell (p := ⟨g, q, none⟩) hlg).trans k0
  have HG := Lib.hid hg; clear hg c0 k0
  go_wp2_with fail
  exact bodyPost_ret (v := .tuple #[.int .u64 (M q : Int), .int .i64 0]) (by simp [results, Tryd.results50, go_sem]) rfl ⟨rfl, HG.out⟩
end Go.Proofs.YtobajnodckiohaaDoor
