/- Memory as the program has it: a new one; how much is used and free. Memory: a head is laid. Memory: an object's place; what stands at a place; a word of it. Memory: a word of an object; a new object. Memory: a new object of words. Objects of memory that are right: plain words. Plain laws of bytes in a word. Memory: a new object of bytes; where its bytes lie. Memory: another byte of an object; a byte of it. Memory: an object's head; all bytes of it. Memory: another word. -/
import Derived.Test.YtibopjjicfiimaaGreatDoorHeadD
import Derived.Test.YtibopjjicfiimaaGreatDoorPackHas
import Derived.Deep.RegionWith
import Derived.Laws.IdiomCopy
import Derived.Laws.Cover3
import Derived.KernelRfl
namespace Go.Proofs.YtibopjjicfiimaaGreatDoor
open Go.RowKit
set_option linter.unusedVariables false
theorem BitsAt.keeps {w w' : World} {B b n : Nat} {S : Nat → Bool} {T : TypeId} (h : BitsAt w B b n S) (hk : KeepsBut T w w') (h1 : 138 ≠ T) (h2 : 30 ≠ T) : BitsAt w' B b n S := by
  obtain ⟨g', cap, m, ws, f, k1, k2, k3, k4, k5, k6, k7, k8, k9⟩ := h
  exact ⟨g', cap, m, ws, f, k1, k2, k3, k4, by rw [hk b _ _ _ k5 h1]; exact k5, k6, k7, hk.row k8 h2, k9⟩
theorem cellInfo : (Tryz.prog.info? 39).map (fun i => (i.zero, i.size, i.bytes)) = some (some (.int .u64 0), 1, 8) := by kernel_rfl
/-- memory of the call's own: n cells, what they hold, the first free one, where objects begin -/
def HeapAt (w : World) (B h N free : Nat) (S : Nat → Bool) (M : Nat → Nat) : Prop :=
  ∃ g s, B ≤ h ∧ B ≤ g ∧ N ≤ 16777216 ∧ 16 ≤ N ∧ free ≤ N ∧ w.heap[h]? = some (.cells #[.slice (some ⟨g, 0, none⟩) N N, .int .i64 (free : Int), .pointer (some ⟨s, 0, none⟩), .int .u32 0] 96 (0, 0)) ∧
    w.rowIs g 39 N (fun i => .int .u64 (M i : Int)) ∧ (∀ i, M i < 18446744073709551616) ∧ BitsAt w B s N S
theorem HeapAt.later {w w' : World} {B h N free : Nat} {S : Nat → Bool} {M : Nat → Nat} (H : HeapAt w B h N free S M) (hb : Below w.heap.size w w') : HeapAt w' B h N free S M := by
  obtain ⟨g, s, h1, h2, h3, h3', h4, h5, h6, h7, h8⟩ := H
  exact ⟨g, s, h1, h2, h3, h3', h4, by rw [hb.block h (Array.getElem?_eq_some_iff.1 h5).1]; exact h5, h6.of_block (hb.block g h6.lt), h7, h8.later hb⟩
/-- the blocks of this memory lie below C -/
def HeapLt (w : World) (h C : Nat) : Prop :=
  ∃ (g s r N N' m c : Nat) (x1 x3 y0 : Value) (cg : Array Value), w.heap[h]? = some (.cells #[.slice (some ⟨g, 0, none⟩) N N', x1, .pointer (some ⟨s, 0, none⟩), x3] 96 (0, 0)) ∧
    w.heap[s]? = some (.cells #[y0, .slice (some ⟨r, 0, none⟩) m c] 138 (0, 0)) ∧ w.heap[g]? = some (.cells cg 39 (0, 0)) ∧ h < C ∧ g < C ∧ s < C ∧ r < C
/-- what lies behind this memory's own blocks is as it was -/
def Stays (h : Nat) (w w' : World) : Prop := w.heap.size ≤ w'.heap.size ∧ ∀ C, HeapLt w h C → HeapLt w' h C ∧ ∀ q, C ≤ q → q < w.heap.size → w'.heap[q]? = w.heap[q]?
theorem Stays.refl (h : Nat) (w : World) : Stays h w w := ⟨Nat.le_refl _, fun _ hl => ⟨hl, fun _ _ _ => rfl⟩⟩
theorem Stays.trans {h : Nat} {a b c : World} (x : Stays h a b) (y : Stays h b c) : Stays h a c :=
  ⟨Nat.le_trans x.1 y.1, fun C hl => ⟨(y.2 C (x.2 C hl).1).1, fun q h1 h2 => ((y.2 C (x.2 C hl).1).2 q h1 (Nat.lt_of_lt_of_le h2 x.1)).trans ((x.2 C hl).2 q h1 h2)⟩⟩
theorem HeapLt.same {w w' : World} {h C : Nat} (hl : HeapLt w h C) (he : ∀ (q : Nat) (c : Array Value) (T : TypeId) (fr : Nat × Nat), w.heap[q]? = some (Obj.cells c T fr) → T ≠ 30 → w'.heap[q]? = w.heap[q]?) : HeapLt w' h C := by
  obtain ⟨g, s, r, N, N', m, c, x1, x3, y0, cg, h1, h2, h3, h4⟩ := hl
  exact ⟨g, s, r, N, N', m, c, x1, x3, y0, cg, (he _ _ _ _ h1 (by decide)).trans h1, (he _ _ _ _ h2 (by decide)).trans h2, (he _ _ _ _ h3 (by decide)).trans h3, h4⟩
theorem Stays.below {h : Nat} {w w' : World} (hb : Below w.heap.size w w') : Stays h w w' :=
  ⟨hb.size, fun _ hl => ⟨hl.same fun q _ _ _ hq _ => hb.block q (Array.getElem?_eq_some_iff.1 hq).1, fun q _ hq => hb.block q hq⟩⟩
theorem Stays.of_heap {h : Nat} {w w' : World} (hh : w'.heap = w.heap) : Stays h w w' :=
  ⟨by rw [hh]; exact Nat.le_refl _, fun _ hl => ⟨hl.same fun q _ _ _ _ _ => by rw [hh], fun q _ _ => by rw [hh]⟩⟩
theorem Stays.setG {h g i N N' : Nat} {w : World} {v : Value} (hc : w.cell? ⟨h, 0, none⟩ = some (.slice (some ⟨g, 0, none⟩) N N')) : Stays h w (w.setCell ⟨g, i, none⟩ v) := by
  refine ⟨by simp [World.setCell], fun C hl => ?_⟩
  obtain ⟨g', s, r, n, n', m, c, x1, x3, y0, cg, h1, h2, h3, h4, h5, h6, h7⟩ := hl
  have : g' = g := by simp [World.cell?, h1] at hc; exact hc.1
  subst this
  have n1 : h ≠ g' := fun e => by subst e; rw [h1] at h3; simp at h3
  have n2 : s ≠ g' := fun e => by subst e; rw [h2] at h3; simp at h3
  refine ⟨⟨g', s, r, n, n', m, c, x1, x3, y0, _, (Below.heap_setCell _ _ _ _ n1).trans h1, (Below.heap_setCell _ _ _ _ n2).trans h2, heap_setCell_same w g' i _ _ _ h3, h4, h5, h6, h7⟩, fun q hq _ => Below.heap_setCell _ _ _ _ (by show q ≠ g'; omega)⟩
theorem Stays.setH {h : Nat} {w : World} {v : Value} : Stays h w (w.setCell ⟨h, 1, none⟩ v) := by
  refine ⟨by simp [World.setCell], fun C hl => ?_⟩
  obtain ⟨g', s, r, n, n', m, c, x1, x3, y0, cg, h1, h2, h3, h4, h5, h6, h7⟩ := hl
  have n1 : g' ≠ h := fun e => by subst e; rw [h1] at h3; simp at h3
  have n2 : s ≠ h := fun e => by subst e; rw [h1] at h2; simp at h2
  exact ⟨⟨g', s, r, n, n', m, c, v, x3, y0, _, heap_setCell_same w h 1 _ _ _ h1, (Below.heap_setCell _ _ _ _ n2).trans h2, (Below.heap_setCell _ _ _ _ n1).trans h3, h4, h5, h6, h7⟩, fun q hq _ => Below.heap_setCell _ _ _ _ (by show q ≠ h; omega)⟩
theorem Stays.bits {h s : Nat} {w w' : World} (hc : w.cell? ⟨h, 2, none⟩ = some (.pointer (some ⟨s, 0, none⟩))) (hz : w.heap.size ≤ w'.heap.size) (hk : KeepsBut 30 w w')
    (ho : ∀ q, (∀ r m c, w.cell? ⟨s, 1, none⟩ = some (.slice (some ⟨r, 0, none⟩) m c) → q ≠ r) → w'.heap[q]? = w.heap[q]?) : Stays h w w' := by
  refine ⟨hz, fun C hl => ⟨hl.same fun q c T fr hq hT => hk q c T fr hq hT, ?_⟩⟩
  obtain ⟨g', s', r, n, n', m, c, x1, x3, y0, cg, h1, h2, h3, h4, h5, h6, h7⟩ := hl
  have : s' = s := by simp [World.cell?, h1] at hc; exact hc
  subst this
  intro q hq _
  refine ho q fun r' m' c' hr => ?_
  simp [World.cell?, h2] at hr
  omega
theorem HeapAt.lt {w : World} {B h N free : Nat} {S : Nat → Bool} {M : Nat → Nat} (H : HeapAt w B h N free S M) : HeapLt w h w.heap.size := by
  obtain ⟨g, s, h1, h2, h3, h3', h4, h5, h6, h7, h8⟩ := H
  obtain ⟨g', cap, m, ws, f, k1, k2, k3, k4, k5, k6, k7, k8, k9⟩ := h8
  have hg := h6.lt; have hr := k8.lt
  obtain ⟨cg, hcg, -⟩ := h6
  exact ⟨g, s, g', N, N, _, cap, _, _, _, cg, h5, k5, hcg, (Array.getElem?_eq_some_iff.1 h5).1, hg, (Array.getElem?_eq_some_iff.1 k5).1, hr⟩
set_option maxRecDepth 100000 in
theorem new_no (n : Int) (hn : n < 16 ∨ 16777216 < n) (w : World) :
    Calls Tryz.prog 43 #[.int .i64 n] w fun e w' => e = .returned (.tuple #[.pointer none, .int .i64 2]) ∧ w' = w := by
  go_enter Tryz.func43, Tryz.ntmps43
  go_wp2_with fail
  all_goals (try (exfalso; go_light; omega))
  all_goals exact bodyPost_ret (v := .tuple #[.pointer none, .int .i64 2]) (by simp [results, Tryz.results43, go_sem]) rfl ⟨rfl, rfl⟩
set_option maxRecDepth 100000 in
theorem new_yes (N : Nat) (h0 : 16 ≤ N) (h1 : N ≤ 16777216) (w : World) :
    Calls Tryz.prog 43 #[.int .i64 (N : Int)] w fun e w' => ∃ h, e = .returned (.tuple #[.pointer (some ⟨h, 0, none⟩), .int .i64 0]) ∧ HeapAt w' w.heap.size h N 2 (fun _ => false) (fun _ => 0) ∧ Below w.heap.size w w' := by
  have hmk : ∀ W, (Instr.makeSlice 40 (.int .i64 (N : Int)) (.int .i64 (N : Int))).run Tryz.prog W = .ok (.slice (some ⟨W.heap.size, 0, none⟩) N N) (W.alloc (.cells (madeCells #[.int .u64 0] N) 39)) :=
    fun W => run_make_row' (P := Tryz.prog) 40 39 (.int .u64 0) 8 Tryz.underlying40 cellInfo rfl .i64 .i64 N (by omega) (by omega) W
  have hsz : sizeZ (N : Int) = N := by unfold sizeZ; omega
  have NB := Lib.hid (fun W => newBits_any (N : Int) W)
  rw [hsz] at NB
  clear hsz
  have q1 : ¬ (N : Int) < 16 := by omega
  have q2 : ¬ (16777216 : Int) < N := by omega
  go_enter Tryz.func43, Tryz.ntmps43
  go_wp2_with fail
  all_goals (try (exfalso; go_light; omega))
  go_region_with (go_at_call 83; refine (NB.out _).mono ?_; rintro e w1 ⟨rfl, hb, hg⟩; have HB := Lib.hid hb; have HG := Lib.hid hg; clear hb hg)
  · have hr : w1.rowIs w.heap.size 39 N (fun _ => .int .u64 0) := (World.rowIs_made w.drew (.int .u64 0) N 39).of_block (HG.out.block w.heap.size (by simp))
    have hb1 : Below w.heap.size w w1 := ((Below.refl _ w).drew.alloc (Nat.le_refl _) _).trans (HG.out.mono (by simp))
    have hb0 : BitsAt w1 w.heap.size (w.heap.size + 1 + 1) N (fun _ => false) := by
      have := HB.out.mono (C := w.heap.size) (by simp)
      simpa using this
    have hbb := hb0.later ((Below.refl _ w1).alloc (Nat.le_refl _) (.cells #[.slice (some ⟨w.heap.size, 0, none⟩) N N, .int .i64 2, .pointer (some ⟨w.heap.size + 1 + 1, 0, none⟩), .int .u32 0] 96))
    have hz := hb1.size
    have HR := Lib.hid hr; have HB1 := Lib.hid hb1; have HBB := Lib.hid hbb; clear hr hb1 hbb
    go_wp2_with fail
    refine bodyPost_ret (v := .tuple #[.pointer (some ⟨w1.heap.size, 0, none⟩), .int .i64 0]) (by simp [results, Tryz.results43, go_sem]) rfl ⟨_, rfl, ⟨w.heap.size, _, hz, Nat.le_refl _, h1, h0, by omega, heap_alloc_new w1 _, HR.out.alloc _, fun _ => (show 0 < 18446744073709551616 by omega), HBB.out⟩, HB1.out.alloc hz _⟩
  · have hb1 : Below w.heap.size w w1 := (Below.refl _ w).drew.trans HG.out
    have hz := hb1.size
    have hr : (w1.alloc (.cells (madeCells #[.int .u64 0] N) 39)).rowIs w1.heap.size 39 N (fun _ => .int .u64 0) := World.rowIs_made w1 (.int .u64 0) N 39
    have hbb := (HB.out.later ((Below.refl _ w1).alloc (Nat.le_refl _) (.cells (madeCells #[.int .u64 0] N) 39))).later ((Below.refl _ _).alloc (Nat.le_refl _) (.cells #[.slice (some ⟨w1.heap.size, 0, none⟩) N N, .int .i64 2, .pointer (some ⟨w.heap.size + 1, 0, none⟩), .int .u32 0] 96))
    have HR := Lib.hid hr; have HB1 := Lib.hid hb1; have HBB := Lib.hid hbb; clear hr hb1 hbb
    go_wp2_with fail
    refine bodyPost_ret (v := .tuple #[.pointer (some ⟨w1.heap.size + 1, 0, none⟩), .int .i64 0]) (by simp [results, Tryz.results43, go_sem]) rfl ⟨_, rfl, ⟨w1.heap.size, _, by omega, hz, h1, h0, by omega, ?_, HR.out.alloc _, fun _ => (show 0 < 18446744073709551616 by omega), HBB.out⟩, ?_⟩
    · have := heap_alloc_new (w1.alloc (.cells (madeCells #[.int .u64 0] N) 39)) (.cells #[.slice (some ⟨w1.heap.size, 0, none⟩) N N, .int .i64 2, .pointer (some ⟨w.heap.size + 1, 0, none⟩), .int .u32 0] 96)
      rw [show (w1.alloc (.cells (madeCells #[.int .u64 0] N) 39)).heap.size = w1.heap.size + 1 from by simp] at this
      exact this
    · exact (HB1.out.alloc hz _).alloc (by simp; omega) _
set_option maxRecDepth 100000 in
theorem free_any (B h N free : Nat) (S : Nat → Bool) (M : Nat → Nat) (w : World) (H : HeapAt w B h N free S M) :
    Calls Tryz.prog 51 #[.pointer (some ⟨h, 0, none⟩)] w fun e w' => e = .returned (.int .i64 ((N - free : Nat) : Int)) ∧ Below w.heap.size w w' := by
  obtain ⟨g, s, h1, h2, h3, h3', h4, h5, -⟩ := H
  have hl := (Array.getElem?_eq_some_iff.1 h5).1
  have c0 : w.cell? ⟨h, 0, none⟩ = some (.slice (some ⟨g, 0, none⟩) N N) := by simp [World.cell?, h5]
  have c1 : w.cell? ⟨h, 1, none⟩ = some (.int .i64 (free : Int)) := by simp [World.cell?, h5]
  clear h5
  go_enter Tryz.func51, Tryz.ntmps51
  go_wp2_with fail
  (refine wp_region_later (by kernel_rfl) (by kernel_rfl) ?_; (repeat (go_big_quiet_step ((fail)))); refine wpQuiet_nil ?_; intro w4 hw4; have hg := later_elim hw4; clear hw4)
  have HG := Lib.hid hg; clear hg
  go_wp2_with fail
  go_ret
  exact ⟨ret_int (by omega), HG.out⟩
end Go.Proofs.YtibopjjicfiimaaGreatDoor
namespace Go.Proofs.YtibopjjicfiimaaGreatDoor
open Go.RowKit
set_option linter.unusedVariables false
theorem cellO {w : World} {g : Nat} {cs : Array Value} {t : TypeId} {fr : Nat × Nat} (h : w.heap[g]? = some (.cells cs t fr)) (i : Nat) : w.cell? ⟨g, i, none⟩ = cs[i]? := by simp [World.cell?, h]
def put2 (M : Nat → Nat) (at_ a b : Nat) : Nat → Nat := fun i => if i = at_ then a else if i = at_ + 1 then b else M i
end Go.Proofs.YtibopjjicfiimaaGreatDoor
namespace Go.Proofs.YtibopjjicfiimaaGreatDoor
open Go.RowKit
set_option linter.unusedVariables false
set_option maxRecDepth 100000 in
theorem hat_yes (B h N free a : Nat) (S : Nat → Bool) (M : Nat → Nat) (w : World) (H : HeapAt w B h N free S M) (a0 : 1 ≤ a) (a1 : a < 16777216) :
    Calls Tryz.prog 78 #[.pointer (some ⟨h, 0, none⟩), .int .u64 (a * 2 : Int)] w fun e w' => e = .returned (.tuple #[.int .i64 (a : Int), .bool (S a)]) ∧ Below w.heap.size w w' := by
  obtain ⟨g, s, h1, h2, h3, h3', h4, h5, h6, h7, h8⟩ := H
  have hl := (Array.getElem?_eq_some_iff.1 h5).1
  have c2 : w.cell? ⟨h, 2, none⟩ = some (.pointer (some ⟨s, 0, none⟩)) := by simp [World.cell?, h5]
  have A := Lib.hid (at_yes ((a : Int) * 2) (by omega) (by omega) (by omega) w)
  rw [show (a : Int) * 2 / 2 = (a : Int) by omega] at A
  have HS := Lib.hid (has_any B s N S (a : Int) w h8)
  rw [show (decide (0 ≤ (a : Int)) && S (a : Int).toNat) = S a by simp] at HS
  generalize S a = sa at *
  clear h5 h6 h8
  go_enter Tryz.func78, Tryz.ntmps78
  go_wp2_with fail
  refine A.out.mono ?_
  rintro e w1 ⟨rfl, hw⟩
  subst hw
  go_wp2_with fail
  refine HS.out.mono ?_
  rintro e w2 ⟨rfl, hg⟩
  have HG := Lib.hid hg; clear hg
  go_wp2_with fail
  exact bodyPost_ret (v := .tuple #[.int .i64 (a : Int), .bool sa]) (by simp [results, Tryz.results78, go_sem]) rfl ⟨rfl, HG.out⟩
set_option maxRecDepth 100000 in
theorem hhas_yes (B h N free a : Nat) (S : Nat → Bool) (M : Nat → Nat) (w : World) (H : HeapAt w B h N free S M) (a0 : 1 ≤ a) (a1 : a < 16777216) :
    Calls Tryz.prog 38 #[.pointer (some ⟨h, 0, none⟩), .int .u64 (a * 2 : Int)] w fun e w' => e = .returned (.bool (S a)) ∧ Below w.heap.size w w' := by
  have A := Lib.hid (hat_yes B h N free a S M w H a0 a1)
  go_enter Tryz.func38, Tryz.ntmps38
  go_wp2_with fail
  refine A.out.mono ?_
  rintro e w2 ⟨rfl, hg⟩
  have HG := Lib.hid hg; clear hg
  go_wp2_with fail
  go_ret
  exact ⟨rfl, HG.out⟩
set_option maxRecDepth 100000 in
theorem hhead_yes (B h N free at_ : Nat) (S : Nat → Bool) (M : Nat → Nat) (w : World) (H : HeapAt w B h N free S M) (ha : at_ + 2 ≤ N) (hok : UnOK (M at_) (M (at_ + 1))) :
    Calls Tryz.prog 92 #[.pointer (some ⟨h, 0, none⟩), .int .i64 (at_ : Int)] w fun e w' => e = .returned (.agg #[.int .u64 (M at_ : Int), .int .i64 (hK (M (at_ + 1))), .int .i64 (hS (M (at_ + 1))), .int .u32 (hH (M (at_ + 1))), .bool (hM (M (at_ + 1)))]) ∧ Below w.heap.size w w' := by
  obtain ⟨g, s, h1, h2, h3, h3', h4, h5, h6, h7, h8⟩ := H
  have hl := (Array.getElem?_eq_some_iff.1 h5).1
  have hlg := h6.lt
  have c0 : w.cell? ⟨h, 0, none⟩ = some (.slice (some ⟨g, 0, none⟩) N N) := by simp [World.cell?, h5]
  have k0 := h6.cell (i := at_) (by omega)
  have k1 := h6.cell (i := at_ + 1) (by omega)
  have b0 := h7 at_
  have b1 := h7 (at_ + 1)
  have U := Lib.hid (fun W => unpack_yes (M at_) (M (at_ + 1)) (by omega) (by omega) (by omega) (by omega) hok W)
  clear h5 h6 h8 hok
  generalize hK (M (at_ + 1)) = vk at *
  generalize hS (M (at_ + 1)) = vs at *
  generalize hH (M (at_ + 1)) = vh at *
  generalize hM (M (at_ + 1)) = vm at *
  have har : ∀ W : World, (Instr.arrayAt 141 (.slice (some ⟨g, at_, none⟩) 2 (N - at_))).run Tryz.prog W = .ok (.pointer (some ⟨g, at_, none⟩)) W := fun W => run_arrayAt W 141 39 2 _ _ _ Tryz.underlying141 (Nat.le_refl _)
  go_enter Tryz.func92, Tryz.ntmps92
  go_wp2_with fail
  refine (U.out _).mono ?_
  rintro e w1 ⟨rfl, hg⟩
  have hsz := hg.size
  simp at hsz
  have hlw : w.heap.size < w1.heap.size := by omega
  have hgx := Lib.hid hg
  have HG := Lib.hid (((Below.refl _ w).alloc (Nat.le_refl _) _).trans (hg.mono (by simp)) : Below w.heap.size w w1)
  have hcz : w1.heap[w.heap.size]? = some (.cells #[.int .u64 0, .int .i64 0, .int .i64 0, .int .u32 0, .bool false] 119 (0, 0)) := by
    rw [hg.block w.heap.size (by simp)]; exact heap_alloc_new w _
  have z0 : w1.cell? ⟨w.heap.size, 0, none⟩ = _ := cellO hcz 0
  have z1 : w1.cell? ⟨w.heap.size, 1, none⟩ = _ := cellO hcz 1
  have z2 : w1.cell? ⟨w.heap.size, 2, none⟩ = _ := cellO hcz 2
  have z3 : w1.cell? ⟨w.heap.size, 3, none⟩ = _ := cellO hcz 3
  have z4 : w1.cell? ⟨w.heap.size, 4, none⟩ = _ := cellO hcz 4
  have y : ∀ j, w1.frozen? ⟨w.heap.size, j, none⟩ = false := fun j => by unfold World.frozen?; rw [hcz]; cases j <;> rfl
  simp at z0 z1 z2 z3 z4
  clear hg hcz
  go_wp2_with fail
  refine bodyPost_ret (v := .agg #[.int .u64 (M at_ : Int), .int .i64 vk, .int .i64 vs, .int .u32 vh, .bool vm]) (by simp [results, Tryz.results92, go_sem, z0, z1, z2, z3, z4, hlw]) rfl ⟨rfl, ?_⟩
  have hb := HG.out
  repeat (first | with_reducible exact Below.refl _ _ | ((with_reducible refine Below.setCell ?_ ?_ _); rotate_left; focus (first | (simp; done) | (simp; omega) | omega)) | ((with_reducible refine Below.alloc ?_ ?_ _); rotate_left; focus (first | (simp; done) | (simp; omega) | omega)) | (with_reducible refine Below.drew ?_) | ((with_reducible refine Below.trans ?_ (Below.mono hb ?_)); rotate_left; focus (first | (simp; done) | (simp; omega) | omega)))
end Go.Proofs.YtibopjjicfiimaaGreatDoor
namespace Go.Proofs.YtibopjjicfiimaaGreatDoor
open Go.RowKit
set_option linter.unusedVariables false
set_option maxRecDepth 100000 in
theorem find_slot (B h N free a i : Nat) (S : Nat → Bool) (M : Nat → Nat) (w : World) (H : HeapAt w B h N free S M) (a0 : 1 ≤ a) (ha : a + 2 ≤ N) (hS' : S a = true) (hok : UnOK (M a) (M (a + 1))) (hk : hK (M (a + 1)) ≠ 2) (hi : (i : Int) < hS (M (a + 1))) :
    Calls Tryz.prog 98 #[.pointer (some ⟨h, 0, none⟩), .int .u64 (a * 2 : Int), .int .i64 (i : Int), .bool false] w fun e w' => e = .returned (.tuple #[.int .i64 ((a + 2 + i : Nat) : Int), .int .i64 0]) ∧ Below w.heap.size w w' := by
  have hN : N ≤ 16777216 := by obtain ⟨g, s, -, -, h3, -⟩ := H; exact h3
  have A := Lib.hid (hat_yes B h N free a S M w H a0 (by omega))
  rw [hS'] at A
  have HD := Lib.hid (fun W (hW : Below w.heap.size w W) => hhead_yes B h N free a S M W (H.later hW) ha hok)
  have hlim : hS (M (a + 1)) ≤ 1048576 := hok.2.2.1
  have q1 : (hK (M (a + 1)) == 2) = false := by rw [beq_eq_false_iff_ne]; exact hk
  clear H hok
  generalize hK (M (a + 1)) = vk at *
  generalize hS (M (a + 1)) = vs at *
  generalize hH (M (a + 1)) = vh at *
  generalize hM (M (a + 1)) = vm at *
  go_enter Tryz.func98, Tryz.ntmps98
  go_wp2_with fail
  refine A.out.mono ?_
  rintro e w1 ⟨rfl, hg1⟩
  have HG1 := Lib.hid hg1; clear hg1
  go_wp2_with fail
  refine (HD.out w1 HG1.out).mono ?_
  rintro e w2 ⟨rfl, hg2⟩
  have HG2 := Lib.hid (HG1.out.trans (hg2.mono HG1.out.size)); clear hg2
  go_wp2_with fail
  all_goals (try (exfalso; go_light; omega))
  refine bodyPost_ret (v := .tuple #[.int .i64 ((a + 2 + i : Nat) : Int), .int .i64 0]) (by simp [results, Tryz.results98, go_sem]) rfl ⟨rfl, ?_⟩
  exact HG2.out.alloc HG2.out.size _
set_option maxRecDepth 100000 in
theorem hget_yes (B h N free a i : Nat) (S : Nat → Bool) (M : Nat → Nat) (w : World) (H : HeapAt w B h N free S M) (a0 : 1 ≤ a) (ha : a + 2 + i < N) (hS' : S a = true) (hok : UnOK (M a) (M (a + 1))) (hk : hK (M (a + 1)) ≠ 2) (hi : (i : Int) < hS (M (a + 1))) :
    Calls Tryz.prog 73 #[.pointer (some ⟨h, 0, none⟩), .int .u64 (a * 2 : Int), .int .i64 (i : Int)] w fun e w' => e = .returned (.tuple #[.int .u64 (M (a + 2 + i) : Int), .int .i64 0]) ∧ Below w.heap.size w w' := by
  have F := Lib.hid (find_slot B h N free a i S M w H a0 (by omega) hS' hok hk hi)
  obtain ⟨g, s, h1, h2, h3, h3', h4, h5, h6, h7, h8⟩ := H
  have hl := (Array.getElem?_eq_some_iff.1 h5).1
  have hlg := h6.lt
  have c0 : w.cell? ⟨h, 0, none⟩ = some (.slice (some ⟨g, 0, none⟩) N N) := by simp [World.cell?, h5]
  have k0 := h6.cell (i := a + 2 + i) ha
  clear h5 h6 h8 hok hS' hk hi
  generalize hq : a + 2 + i = q at *
  clear hq
  go_enter Tryz.func73, Tryz.ntmps73
  go_wp2_with fail
  refine F.out.mono ?_
  rintro e w1 ⟨rfl, hg⟩
  have c0' : w1.cell? ⟨h, 0, none⟩ = _ := (hg.cell (p := ⟨h, 0, none⟩) hl).trans c0
  have k0' : w1.cell? ⟨g, q, none⟩ = _ := (hg.cell (p := ⟨g, q, none⟩) hlg).trans k0
  have HG := Lib.hid hg; clear hg c0 k0
  go_wp2_with fail
  exact bodyPost_ret (v := .tuple #[.int .u64 (M q : Int), .int .i64 0]) (by simp [results, Tryz.results73, go_sem]) rfl ⟨rfl, HG.out⟩
end Go.Proofs.YtibopjjicfiimaaGreatDoor
namespace Go.Proofs.YtibopjjicfiimaaGreatDoor
open Go.RowKit
set_option linter.unusedVariables false
theorem HeapAt.store {w : World} {B h N free : Nat} {S : Nat → Bool} {M : Nat → Nat} (H : HeapAt w B h N free S M) (i : Nat) (hi : i < N) :
    ∃ g, w.cell? ⟨h, 0, none⟩ = some (.slice (some ⟨g, 0, none⟩) N N) ∧ B ≤ g ∧ g < w.heap.size ∧ h < w.heap.size ∧ w.cell? ⟨g, i, none⟩ = some (.int .u64 (M i : Int)) ∧ w.frozen? ⟨g, i, none⟩ = false ∧
      ∀ v : Nat, v < 18446744073709551616 → HeapAt (w.setCell ⟨g, i, none⟩ (.int .u64 (v : Int))) B h N free S (fun j => if j = i then v else M j) := by
  obtain ⟨g, s, h1, h2, h3, h3', h4, h5, h6, h7, h8⟩ := H
  refine ⟨g, by simp [World.cell?, h5], h2, h6.lt, (Array.getElem?_eq_some_iff.1 h5).1, h6.cell hi, h6.frozen i, fun v hv => ?_⟩
  have hT : ∃ c fr, w.heap[g]? = some (.cells c 39 fr) := by obtain ⟨c, hc, -⟩ := h6; exact ⟨c, _, hc⟩
  have hk := (KeepsBut.refl 39 w).setCell (a := ⟨g, i, none⟩) (u := .int .u64 (v : Int)) hT
  refine ⟨g, s, h1, h2, h3, h3', h4, (hk h _ _ _ h5 (by decide)).trans h5, (h6.set i _).congr fun j hj => ?_, fun j => ?_, h8.keeps hk (by decide) (by decide)⟩
  · by_cases e : j = i
    · simp [e]
    · simp [e]
  · show (if j = i then v else M j) < _
    split
    · exact hv
    · exact h7 j
theorem HeapAt.bits {w : World} {B h N free : Nat} {S : Nat → Bool} {M : Nat → Nat} (H : HeapAt w B h N free S M) :
    ∃ s, w.cell? ⟨h, 2, none⟩ = some (.pointer (some ⟨s, 0, none⟩)) ∧ h < w.heap.size ∧ BitsAt w B s N S ∧ ∀ w' S', BitsAt w' B s N S' → KeepsBut 30 w w' → HeapAt w' B h N free S' M := by
  obtain ⟨g, s, h1, h2, h3, h3', h4, h5, h6, h7, h8⟩ := H
  exact ⟨s, by simp [World.cell?, h5], (Array.getElem?_eq_some_iff.1 h5).1, h8, fun w' S' hb hk => ⟨g, s, h1, h2, h3, h3', h4, (hk h _ _ _ h5 (by decide)).trans h5, hk.row h6 (by decide), h7, hb⟩⟩
theorem HeapAt.freed {w : World} {B h N free : Nat} {S : Nat → Bool} {M : Nat → Nat} (H : HeapAt w B h N free S M) :
    w.cell? ⟨h, 1, none⟩ = some (.int .i64 (free : Int)) ∧ w.frozen? ⟨h, 1, none⟩ = false ∧ h < w.heap.size ∧ B ≤ h ∧ ∀ free', free' ≤ N → HeapAt (w.setCell ⟨h, 1, none⟩ (.int .i64 (free' : Int))) B h N free' S M := by
  obtain ⟨g, s, h1, h2, h3, h3', h4, h5, h6, h7, h8⟩ := H
  have hl := (Array.getElem?_eq_some_iff.1 h5).1
  refine ⟨by simp [World.cell?, h5], by unfold World.frozen?; rw [h5]; rfl, hl, h1, fun free' hf => ?_⟩
  have hk := (KeepsBut.refl 96 w).setCell (a := ⟨h, 1, none⟩) (u := .int .i64 (free' : Int)) ⟨_, _, h5⟩
  exact ⟨g, s, h1, h2, h3, h3', hf, heap_setCell_same w h 1 _ _ _ h5, hk.row h6 (by decide), h7, h8.keeps hk (by decide) (by decide)⟩
def fillM (M : Nat → Nat) (o n v : Nat) : Nat → Nat := fun i => if o ≤ i ∧ i < o + n then v else M i
theorem fillM_zero (M : Nat → Nat) (o v : Nat) : fillM M o 0 v = M := by
  funext i; unfold fillM; rw [if_neg (by omega)]
theorem fillM_step (M : Nat → Nat) (o n v : Nat) : (fun j => if j = o + n then v else fillM M o n v j) = fillM M o (n + 1) v := by
  funext j; unfold fillM
  by_cases e : j = o + n
  · rw [if_pos e, if_pos (by omega)]
  · rw [if_neg e]
    by_cases e2 : o ≤ j ∧ j < o + n
    · rw [if_pos e2, if_pos (by omega)]
    · rw [if_neg e2, if_neg (by omega)]
end Go.Proofs.YtibopjjicfiimaaGreatDoor
namespace Go.Proofs.YtibopjjicfiimaaGreatDoor
open Go.RowKit
set_option linter.unusedVariables false
def OKO (N : Nat) (S : Nat → Bool) (M : Nat → Nat) (a : Nat) : Prop := 1 ≤ a ∧ a + 2 ≤ N ∧ S a = true ∧ UnOK (M a) (M (a + 1))
def GoodH (N : Nat) (S : Nat → Bool) (M : Nat → Nat) : Prop := ∀ a, S a = true → OKO N S M a ∧ (hK (M (a + 1)) ≠ 2 → a + 2 + (hS (M (a + 1))).toNat ≤ N)
theorem setT (N a : Nat) (T : Nat → Bool) (h : a < N) (j : Nat) : setS N T (a : Int) true j = true ↔ j = a ∨ T j = true := by
  unfold setS
  by_cases hj : j = a
  · subst hj; rw [if_pos ⟨by omega, by omega, by omega⟩]; simp
  · rw [if_neg (fun hh => hj (by have := hh.2.2; omega))]; simp [hj]
end Go.Proofs.YtibopjjicfiimaaGreatDoor
namespace Go.Proofs.YtibopjjicfiimaaGreatDoor
/-- byte j of a word -/
def byteIn (W j : Nat) : Nat := W / 2 ^ (8 * j) % 256
theorem byteIn_lt (W j : Nat) : byteIn W j < 256 := Nat.mod_lt _ (by omega)
theorem byteIn_bit (W j i : Nat) : (byteIn W j).testBit i = (decide (i < 8) && W.testBit (8 * j + i)) := by
  unfold byteIn
  rw [show (256 : Nat) = 2 ^ 8 from rfl, Nat.testBit_mod_two_pow, ← Nat.shiftRight_eq_div_pow, Nat.testBit_shiftRight]
/-- a word with another byte r -/
def putIn (W r c : Nat) : Nat := (W &&& (18446744073709551615 - 255 * 2 ^ (8 * r))) ||| (c * 2 ^ (8 * r))
theorem mask_bit (r b : Nat) (hr : r < 8) (hb : b < 64) : (18446744073709551615 - 255 * 2 ^ (8 * r)).testBit b = !(decide (8 * r ≤ b) && decide (b < 8 * r + 8)) := by
  have : ∀ r, r < 8 → ∀ b, b < 64 → (18446744073709551615 - 255 * 2 ^ (8 * r)).testBit b = !(decide (8 * r ≤ b) && decide (b < 8 * r + 8)) := by decide +kernel
  exact this r hr b hb
theorem putIn_lt (W r c : Nat) (hW : W < 18446744073709551616) (hc : c < 256) (hr : r < 8) : putIn W r c < 18446744073709551616 := by
  unfold putIn
  refine Nat.or_lt_two_pow (n := 64) (Nat.lt_of_le_of_lt Nat.and_le_left hW) ?_
  have h2 : 2 ^ (8 * r) ≤ 2 ^ 56 := Nat.pow_le_pow_right (by omega) (by omega)
  calc c * 2 ^ (8 * r) ≤ 255 * 2 ^ 56 := Nat.mul_le_mul (by omega) h2
    _ < _ := by decide
theorem putIn_byte (W r c j : Nat) (hc : c < 256) (hr : r < 8) (hj : j < 8) : byteIn (putIn W r c) j = if j = r then c else byteIn W j := by
  apply Nat.eq_of_testBit_eq
  intro i
  rw [byteIn_bit]
  unfold putIn
  rw [Nat.testBit_or, Nat.testBit_and, Nat.testBit_mul_two_pow]
  by_cases hi : i < 8
  · rw [mask_bit r _ hr (by omega)]
    by_cases e : j = r
    · subst e
      rw [if_pos rfl]
      simp [hi]
    · rw [if_neg e, byteIn_bit]
      by_cases h1 : j < r
      · have a1 : ¬ 8 * r ≤ 8 * j + i := by omega
        simp [hi, a1]
      · have a1 : 8 * r ≤ 8 * j + i := by omega
        have a2 : ¬ 8 * j + i < 8 * r + 8 := by omega
        have a3 : c.testBit (8 * j + i - 8 * r) = false := Nat.testBit_lt_two_pow (Nat.lt_of_lt_of_le (show c < 2 ^ 8 from hc) (Nat.pow_le_pow_right (by omega) (by omega)))
        simp [hi, a2, a3]
  · have : (if j = r then c else byteIn W j).testBit i = false := by
      have hl : (if j = r then c else byteIn W j) < 2 ^ 8 := by split; exact hc; exact byteIn_lt W j
      exact Nat.testBit_lt_two_pow (Nat.lt_of_lt_of_le hl (Nat.pow_le_pow_right (by omega) (by omega)))
    rw [this]; simp [hi]
end Go.Proofs.YtibopjjicfiimaaGreatDoor
namespace Go.Proofs.YtibopjjicfiimaaGreatDoor
open Go.RowKit
set_option linter.unusedVariables false
set_option maxRecDepth 100000 in
theorem find_raw (B h N free a : Nat) (i : Int) (S : Nat → Bool) (M : Nat → Nat) (w : World) (H : HeapAt w B h N free S M) (a0 : 1 ≤ a) (ha : a + 2 ≤ N) (hS' : S a = true) (hok : UnOK (M a) (M (a + 1))) (hk : hK (M (a + 1)) = 2) :
    Calls Tryz.prog 98 #[.pointer (some ⟨h, 0, none⟩), .int .u64 (a * 2 : Int), .int .i64 i, .bool true] w fun e w' => e = .returned (.tuple (if 0 ≤ i ∧ i < hS (M (a + 1)) then #[.int .i64 ((a : Int) + 2 + i / 8), .int .i64 0] else #[.int .i64 0, .int .i64 6])) ∧ Below w.heap.size w w' := by
  have hN : N ≤ 16777216 := by obtain ⟨g, s, -, -, h3, -⟩ := H; exact h3
  have A := Lib.hid (hat_yes B h N free a S M w H a0 (by omega))
  rw [hS'] at A
  have HD := Lib.hid (fun W (hW : Below w.heap.size w W) => hhead_yes B h N free a S M W (H.later hW) ha hok)
  rw [hk] at HD
  have hlim : hS (M (a + 1)) ≤ 1048576 := hok.2.2.1
  clear H hok hk
  generalize hS (M (a + 1)) = vs at *
  generalize hH (M (a + 1)) = vh at *
  generalize hM (M (a + 1)) = vm at *
  by_cases hin : 0 ≤ i ∧ i < vs
  · rw [if_pos hin]
    obtain ⟨hin0, hin1⟩ := hin
    go_enter Tryz.func98, Tryz.ntmps98
    go_wp2_with fail
    refine A.out.mono ?_
    rintro e w1 ⟨rfl, hg1⟩
    have HG1 := Lib.hid hg1; clear hg1
    go_wp2_with fail
    refine (HD.out w1 HG1.out).mono ?_
    rintro e w2 ⟨rfl, hg2⟩
    have HG2 := Lib.hid (HG1.out.trans (hg2.mono HG1.out.size)); clear hg2
    go_wp2_with fail
    all_goals (try (exfalso; go_light; omega))
    refine bodyPost_ret (v := .tuple #[.int .i64 ((a : Int) + 2 + i / 8), .int .i64 0]) (by simp [results, Tryz.results98, go_sem]) rfl ⟨rfl, ?_⟩
    exact HG2.out.alloc HG2.out.size _
  · rw [if_neg hin]
    have hin' : 0 ≤ i → ¬ i < vs := by omega
    clear hin
    go_enter Tryz.func98, Tryz.ntmps98
    go_wp2_with fail
    refine A.out.mono ?_
    rintro e w1 ⟨rfl, hg1⟩
    have HG1 := Lib.hid hg1; clear hg1
    go_wp2_with fail
    refine (HD.out w1 HG1.out).mono ?_
    rintro e w2 ⟨rfl, hg2⟩
    have HG2 := Lib.hid (HG1.out.trans (hg2.mono HG1.out.size)); clear hg2
    go_wp2_with fail
    all_goals (try (exfalso; go_light; omega))
    all_goals refine bodyPost_ret (v := .tuple #[.int .i64 0, .int .i64 6]) (by simp [results, Tryz.results98, go_sem]) rfl ⟨rfl, ?_⟩
    all_goals exact HG2.out.alloc HG2.out.size _
end Go.Proofs.YtibopjjicfiimaaGreatDoor
namespace Go.Proofs.YtibopjjicfiimaaGreatDoor
open Go.RowKit
set_option linter.unusedVariables false
def putM (M : Nat → Nat) (a i c : Nat) : Nat → Nat := fun j => if j = a + 2 + i / 8 then putIn (M (a + 2 + i / 8)) (i % 8) c else M j
/-- an object of n bytes at a place -/
def IsRaw (S : Nat → Bool) (M : Nat → Nat) (N a n : Nat) : Prop := 1 ≤ a ∧ a + 2 + (n + 7) / 8 ≤ N ∧ S a = true ∧ UnOK (M a) (M (a + 1)) ∧ hK (M (a + 1)) = 2 ∧ hS (M (a + 1)) = (n : Int)
theorem IsRaw.put {S : Nat → Bool} {M : Nat → Nat} {N a n i c : Nat} (h : IsRaw S M N a n) : IsRaw S (putM M a i c) N a n := by
  obtain ⟨h1, h2, h3, h4, h5, h6⟩ := h
  have e0 : putM M a i c a = M a := by unfold putM; rw [if_neg (by omega)]
  have e1 : putM M a i c (a + 1) = M (a + 1) := by unfold putM; rw [if_neg (by omega)]
  exact ⟨h1, h2, h3, by rw [e0, e1]; exact h4, by rw [e1]; exact h5, by rw [e1]; exact h6⟩
theorem HeapAt.typed {w : World} {B h N free g : Nat} {S : Nat → Bool} {M : Nat → Nat} (H : HeapAt w B h N free S M) (hg : w.cell? ⟨h, 0, none⟩ = some (.slice (some ⟨g, 0, none⟩) N N)) : ∃ c fr, w.heap[g]? = some (.cells c 39 fr) := by
  obtain ⟨g', s, h1, h2, h3, h3', h4, h5, h6, h7, h8⟩ := H
  have : w.cell? ⟨h, 0, none⟩ = some (.slice (some ⟨g', 0, none⟩) N N) := by simp [World.cell?, h5]
  rw [this] at hg
  injection hg with hg
  injection hg with hg _ _
  injection hg with hg
  injection hg with hg _ _
  subst hg
  obtain ⟨c, hc, -⟩ := h6
  exact ⟨c, _, hc⟩
theorem HeapAt.keeps {w w' : World} {B h N free : Nat} {S : Nat → Bool} {M : Nat → Nat} {T : TypeId} (H : HeapAt w B h N free S M) (hk : KeepsBut T w w') (t1 : 96 ≠ T) (t2 : 39 ≠ T) (t3 : 138 ≠ T) (t4 : 30 ≠ T) : HeapAt w' B h N free S M := by
  obtain ⟨g, s, h1, h2, h3, h3', h4, h5, h6, h7, h8⟩ := H
  exact ⟨g, s, h1, h2, h3, h3', h4, by rw [hk h _ _ _ h5 t1]; exact h5, hk.row h6 t2, h7, h8.keeps hk t3 t4⟩
set_option maxRecDepth 100000 in
theorem byte_any (B h N free a n i : Nat) (S : Nat → Bool) (M : Nat → Nat) (w : World) (H : HeapAt w B h N free S M) (R : IsRaw S M N a n) (hi : i < n) :
    Calls Tryz.prog 97 #[.pointer (some ⟨h, 0, none⟩), .int .u64 (a * 2 : Int), .int .i64 (i : Int)] w fun e w' => e = .returned (.tuple #[.int .u8 (byteIn (M (a + 2 + i / 8)) (i % 8) : Int), .int .i64 0]) ∧ Below w.heap.size w w' := by
  obtain ⟨r1, r2, r3, r4, r5, r6⟩ := R
  have F := Lib.hid (find_raw B h N free a (i : Int) S M w H r1 (by omega) r3 r4 r5)
  rw [r6, if_pos ⟨by omega, by omega⟩] at F
  have hN : N ≤ 16777216 := by obtain ⟨g, s, -, -, h3, -⟩ := H; exact h3
  have HH := Lib.hid H
  clear H r3 r4 r5 r6
  have hq : a + 2 + i / 8 < N := by omega
  obtain ⟨q, hqe⟩ : ∃ q, a + 2 + i / 8 = q := ⟨_, rfl⟩
  have hqi : (a : Int) + 2 + (i : Int) / 8 = (q : Int) := by omega
  obtain ⟨r, hre⟩ : ∃ r, i % 8 = r := ⟨_, rfl⟩
  have hri : (i : Int) % 8 = (r : Int) := by omega
  have hr : r < 8 := by omega
  have hby : ((M q : Int) / 2 ^ (8 * r)) % 256 = (byteIn (M q) r : Int) := by unfold byteIn; simp
  rw [hqi] at F
  rw [hqe] at hq
  rw [hqe, hre]
  have HBY := Lib.hid hby
  clear hqe hre hqi hby
  go_enter Tryz.func97, Tryz.ntmps97
  go_wp2_with fail
  refine F.out.mono ?_
  rintro e w1 ⟨rfl, hg⟩
  have h1 := HH.out.later hg
  obtain ⟨g, g0, gB, gl, hl, gc, gf, -⟩ := h1.store q hq
  have HG := Lib.hid hg
  clear h1 hg
  go_wp2_with fail
  all_goals (try (exfalso; go_light; omega))
  refine bodyPost_ret (v := .tuple #[.int .u8 (byteIn (M q) r : Int), .int .i64 0]) (by simp [results, Tryz.results97, go_sem, HBY.out]) rfl ⟨rfl, HG.out⟩
end Go.Proofs.YtibopjjicfiimaaGreatDoor
namespace Go.Proofs.YtibopjjicfiimaaGreatDoor
open Go.RowKit
set_option linter.unusedVariables false
theorem bytes_of_row {w : World} {g m cap : Nat} {f : Nat → Value} {L : List UInt8} (h : w.rowIs g 5 m f) (hm : L.length ≤ m) (hf : ∀ i (hi : i < L.length), f i = .int .u8 (L[i].toNat : Int)) (hc : L.length ≤ cap) (hcm : cap ≤ maxLen) : BytesAt w (.slice (some ⟨g, 0, none⟩) L.length cap) L := by
  refine ⟨_, cap, rfl, hc, hcm, Or.inr ⟨g, 0, rfl, fun j hj => ?_⟩, fun h => by cases h⟩
  rw [Lib.byteCells_length] at hj
  rw [Nat.zero_add, h.cell (by omega), hf j hj]
  simp [Lib.byteCells, hj]
set_option maxRecDepth 100000 in
theorem hHead_yes (B h N free a : Nat) (S : Nat → Bool) (M : Nat → Nat) (w : World) (H : HeapAt w B h N free S M) (a0 : 1 ≤ a) (ha : a + 2 ≤ N) (hS' : S a = true) (hok : UnOK (M a) (M (a + 1))) :
    Calls Tryz.prog 56 #[.pointer (some ⟨h, 0, none⟩), .int .u64 (a * 2 : Int)] w fun e w' => e = .returned (.tuple #[.agg #[.int .u64 (M a : Int), .int .i64 (hK (M (a + 1))), .int .i64 (hS (M (a + 1))), .int .u32 (hH (M (a + 1))), .bool (hM (M (a + 1)))], .int .i64 0]) ∧ Below w.heap.size w w' := by
  have hN : N ≤ 16777216 := by obtain ⟨g, s, -, -, h3, -⟩ := H; exact h3
  have A := Lib.hid (fun W (hW : Below w.heap.size w W) => hat_yes B h N free a S M W (H.later hW) a0 (by omega))
  rw [hS'] at A
  have HD := Lib.hid (fun W (hW : Below w.heap.size w W) => hhead_yes B h N free a S M W (H.later hW) ha hok)
  clear H hok
  generalize hK (M (a + 1)) = vk at *
  generalize hS (M (a + 1)) = vs at *
  generalize hH (M (a + 1)) = vh at *
  generalize hM (M (a + 1)) = vm at *
  have hz0 : Below w.heap.size w (w.alloc (.cells #[.int .u64 0, .int .i64 0, .int .i64 0, .int .u32 0, .bool false] 119)) := (Below.refl _ w).alloc (Nat.le_refl _) _
  have HZ0 := Lib.hid hz0; clear hz0
  go_enter Tryz.func56, Tryz.ntmps56
  go_wp2_with fail
  refine (A.out _ HZ0.out).mono ?_
  rintro e w1 ⟨rfl, hg1⟩
  have hx1 : w1.heap[w.heap.size]? = some (.cells #[.int .u64 0, .int .i64 0, .int .i64 0, .int .u32 0, .bool false] 119 (0, 0)) := by
    rw [hg1.block w.heap.size (by simp)]; exact heap_alloc_new w _
  have hl1 : w.heap.size < w1.heap.size := (Array.getElem?_eq_some_iff.1 hx1).1
  have HX1 := Lib.hid hx1
  have HG1 := Lib.hid (HZ0.out.trans (hg1.mono (by simp)) : Below w.heap.size w w1)
  clear hg1 hx1
  go_wp2_with fail
  refine (HD.out w1 HG1.out).mono ?_
  rintro e w2 ⟨rfl, hg2⟩
  have hx2 : w2.heap[w.heap.size]? = some (.cells #[.int .u64 0, .int .i64 0, .int .i64 0, .int .u32 0, .bool false] 119 (0, 0)) := by
    rw [hg2.block w.heap.size hl1]; exact HX1.out
  have hlw : w.heap.size < w2.heap.size := (Array.getElem?_eq_some_iff.1 hx2).1
  have z0 : w2.cell? ⟨w.heap.size, 0, none⟩ = _ := cellO hx2 0
  have z1 : w2.cell? ⟨w.heap.size, 1, none⟩ = _ := cellO hx2 1
  have z2 : w2.cell? ⟨w.heap.size, 2, none⟩ = _ := cellO hx2 2
  have z3 : w2.cell? ⟨w.heap.size, 3, none⟩ = _ := cellO hx2 3
  have z4 : w2.cell? ⟨w.heap.size, 4, none⟩ = _ := cellO hx2 4
  have y : ∀ j, w2.frozen? ⟨w.heap.size, j, none⟩ = false := fun j => by unfold World.frozen?; rw [hx2]; cases j <;> rfl
  simp at z0 z1 z2 z3 z4
  have HG2 := Lib.hid (HG1.out.trans (hg2.mono HG1.out.size) : Below w.heap.size w w2)
  clear hg2 hx2
  go_wp2_with fail
  refine bodyPost_ret (v := .tuple #[.agg #[.int .u64 (M a : Int), .int .i64 vk, .int .i64 vs, .int .u32 vh, .bool vm], .int .i64 0]) (by simp [results, Tryz.results56, go_sem, z0, z1, z2, z3, z4]) rfl ⟨rfl, ?_⟩
  have hb := HG2.out
  repeat (first | with_reducible exact Below.refl _ _ | ((with_reducible refine Below.setCell ?_ ?_ _); rotate_left; focus (first | (simp; done) | (simp; omega) | omega)) | ((with_reducible refine Below.alloc ?_ ?_ _); rotate_left; focus (first | (simp; done) | (simp; omega) | omega)) | (with_reducible refine Below.drew ?_) | ((with_reducible refine Below.trans ?_ (Below.mono hb ?_)); rotate_left; focus (first | (simp; done) | (simp; omega) | omega)))
/-- what an object's bytes are -/
def rawL (M : Nat → Nat) (a n : Nat) : List UInt8 := (List.range n).map fun i => UInt8.ofNat (byteIn (M (a + 2 + i / 8)) (i % 8))
theorem rawL_len (M : Nat → Nat) (a n : Nat) : (rawL M a n).length = n := by simp [rawL]
set_option maxRecDepth 100000 in
theorem bytes_any (B h N free a n : Nat) (S : Nat → Bool) (M : Nat → Nat) (w : World) (H : HeapAt w B h N free S M) (R : IsRaw S M N a n) (hn : n ≤ 1000000) :
    Calls Tryz.prog 72 #[.pointer (some ⟨h, 0, none⟩), .int .u64 (a * 2 : Int)] w fun e w' => ∃ v, e = .returned (.tuple #[v, .int .i64 0]) ∧ BytesAt w' v (rawL M a n) ∧ Below w.heap.size w w' := by
  have RR := Lib.hid R
  obtain ⟨r1, r2, r3, r4, r5, r6⟩ := R
  have HD := Lib.hid (hHead_yes B h N free a S M w H r1 (by omega) r3 r4)
  rw [r5, r6] at HD
  have BY := Lib.hid (fun W i (hW : Below w.heap.size w W) (hi : i < n) => byte_any B h N free a n i S M W (H.later hW) RR.out hi)
  clear H r3 r4 r5 r6
  generalize hH (M (a + 1)) = vh at *
  generalize hM (M (a + 1)) = vm at *
  have hmk : ∀ W, (Instr.makeSlice 43 (.int .i64 (n : Int)) (.int .i64 (n : Int))).run Tryz.prog W = .ok (.slice (some ⟨W.heap.size, 0, none⟩) n n) (W.alloc (.cells (madeCells #[.int .u8 0] n) 5)) :=
    fun W => run_make_row' (P := Tryz.prog) 43 5 (.int .u8 0) 1 Tryz.underlying43 byteInfo rfl .i64 .i64 n (by omega) (by omega) W
  go_enter Tryz.func72, Tryz.ntmps72
  go_wp2_with fail
  refine HD.out.mono ?_
  rintro e w1 ⟨rfl, hg⟩
  have HG1 := Lib.hid hg; clear hg
  have hs1 := HG1.out.size
  have HR0 := Lib.hid (show ((w1.alloc (.cells #[.int .u64 (M a : Int), .int .i64 2, .int .i64 (n : Int), .int .u32 vh, .bool vm] 119)).alloc (.cells (madeCells #[.int .u8 0] n) 5)).rowIs (w1.heap.size + 1) 5 n (fun _ => .int .u8 0) from by
    have := World.rowIs_made (w1.alloc (.cells #[.int .u64 (M a : Int), .int .i64 2, .int .i64 (n : Int), .int .u32 vh, .bool vm] 119)) (.int .u8 0) n 5
    rw [show (w1.alloc (.cells #[.int .u64 (M a : Int), .int .i64 2, .int .i64 (n : Int), .int .u32 vh, .bool vm] 119)).heap.size = w1.heap.size + 1 by simp] at this
    exact this)
  have HB0 := Lib.hid (show Below w.heap.size w ((w1.alloc (.cells #[.int .u64 (M a : Int), .int .i64 2, .int .i64 (n : Int), .int .u32 vh, .bool vm] 119)).alloc (.cells (madeCells #[.int .u8 0] n) 5)) from (HG1.out.alloc hs1 _).alloc (by simp; omega) _)
  have hgw : w.heap.size ≤ w1.heap.size + 1 := by omega
  go_wp2_with fail
  generalize w1.heap.size + 1 = g0 at *
  go_loopg [27] n (fun gg j wr => ∃ k : Nat, gg = n - k ∧ k ≤ n ∧ j = .int .i64 k ∧ wr.rowIs g0 5 n (fun i => if i < k then .int .u8 (byteIn (M (a + 2 + i / 8)) (i % 8) : Int) else .int .u8 0) ∧ Below w.heap.size w wr)
  case atStart => exact ⟨0, rfl, by omega, rfl, HR0.out.congr fun i hi => by rw [if_neg (by omega)], HB0.out⟩
  case round =>
    obtain ⟨k, hgk, hk, rfl, hr, hb⟩ := hrel
    have HK := Lib.hid hgk; have HB := Lib.hid hb; have HR := Lib.hid hr; clear hgk
    by_cases hlt : k < n
    · have hlg := hr.lt
      have B1 := Lib.hid (BY.out wr k hb hlt)
      clear hr hb
      go_wp2_with fail
      refine B1.out.mono ?_
      rintro e w3 ⟨rfl, hg3⟩
      have hr3 := HR.out.of_block (hg3.block g0 hlg)
      have hc3 := hr3.cell hlt
      rw [if_neg (by omega)] at hc3
      have hf3 := hr3.frozen k
      have hl3 := hr3.lt
      have HR3 := Lib.hid ((hr3.set k (.int .u8 (byteIn (M (a + 2 + k / 8)) (k % 8) : Int))).congr (g := fun i => if i < k + 1 then .int .u8 (byteIn (M (a + 2 + i / 8)) (i % 8) : Int) else .int .u8 0) fun i hi => by
        by_cases e : i = k
        · subst e; rw [if_pos rfl, if_pos (by omega)]
        · rw [if_neg e]
          by_cases e2 : i < k
          · rw [if_pos e2, if_pos (by omega)]
          · rw [if_neg e2, if_neg (by omega)])
      have HB3 := Lib.hid ((HB.out.trans (hg3.mono HB.out.size)).setCell (p := ⟨g0, k, none⟩) hgw (.int .u8 (byteIn (M (a + 2 + k / 8)) (k % 8) : Int)))
      clear hr3 hg3
      generalize byteIn (M (a + 2 + k / 8)) (k % 8) = bv at *
      go_wp2_with fail
      go_roundg (n - (k + 1))
      case measure => rw [HK.out]; omega
      case rel => exact ⟨k + 1, rfl, by omega, by go_num, HR3.out, HB3.out⟩
    · obtain rfl : k = n := by omega
      have HBY := Lib.hid (bytes_of_row (cap := k) (L := rawL M a k) hr (by rw [rawL_len]; exact Nat.le_refl _) (fun i hi => by
        rw [rawL_len] at hi
        rw [if_pos hi]
        have hb := byteIn_lt (M (a + 2 + i / 8)) (i % 8)
        simp only [rawL, List.getElem_map, List.getElem_range]
        congr 1
        have : (UInt8.ofNat (byteIn (M (a + 2 + i / 8)) (i % 8))).toNat = byteIn (M (a + 2 + i / 8)) (i % 8) % 256 := by simp
        rw [this, Nat.mod_eq_of_lt hb]) (by rw [rawL_len]; exact Nat.le_refl _) (by unfold maxLen; omega))
      have hlen := rawL_len M a k
      clear hr hb
      go_wp2_with fail
      refine bodyPost_ret (v := .tuple #[.slice (some ⟨g0, 0, none⟩) k k, .int .i64 0]) (by simp [results, Tryz.results72, go_sem]) rfl ⟨_, rfl, ?_, HB.out⟩
      have := HBY.out
      rwa [hlen] at this
end Go.Proofs.YtibopjjicfiimaaGreatDoor
namespace Go.Proofs.YtibopjjicfiimaaGreatDoor
open Go.RowKit
set_option linter.unusedVariables false
end Go.Proofs.YtibopjjicfiimaaGreatDoor
