/- The document's heap: an empty one; a new object. -/
import Derived.Test.YtaillinlbbhdkaaDoorRefD
import Derived.Laws.AppendOwnNone
namespace Go.Proofs.YtaillinlbbhdkaaDoor
open Go.RowKit
set_option linter.unusedVariables false
theorem step_append_none {P : Program} {ops : Array Oper} {o : Oper} {a : Act} {w : World} {K : Act → World → Prop} {Q : Exit → Act → World → Prop} {E : Prop} (hgd : o.guard = none) (s x : Operand) (t : TypeId)
    (ho : o.op = .call { callee := .builtin .append, args := #[s, x], argTypes := #[t, t] })
    (base : Nat) (e : TypeId) (i : TypeInfo) (size : Nat) (ht : P.underlying t = some (.slice e)) (hi : P.info? e = some i)
    (v : Value) (n : Nat) (xs : List Value) (hs : a.eval s = v) (hown : w.ownsRow base e size v n xs) (hx : a.eval x = .slice none 0 0)
    (h : K (a.put o.dst v) w) : if Region.wanted o (yielded ops a.tmps) = true then Oper.wp P o a w K Q else E := by
  have hw : Region.wanted o (yielded ops a.tmps) = true := by simp [Region.wanted, hgd]
  rw [if_pos hw]
  have hrun := run_append_owned_none (P := P) (w := w) base t o.type e i size ht hi v n xs hown
  unfold Oper.wp
  simp [execOp, ho, resolve, invoke, builtin, hs, hx, hrun, Result.andThen]
  exact h
set_option maxRecDepth 100000 in
theorem rnew_yes (w : World) : Calls Tryd.prog 14 #[.int .i64 200] w fun e w' => e = .returned (.tuple #[.agg #[.int .i64 200, .slice none 0 0, .int .u32 0], .bool true]) ∧ Below w.heap.size w w' := by
  go_enter Tryd.func14, Tryd.ntmps14
  go_wp2_with fail
  refine bodyPost_ret (v := .tuple #[.agg #[.int .i64 200, .slice none 0 0, .int .u32 0], .bool true]) (by simp [results, Tryd.results14, go_sem]) rfl ⟨rfl, ?_⟩
  repeat (first | with_reducible exact Below.refl _ _ | ((with_reducible refine Below.setCell ?_ ?_ _); rotate_left; focus (first | (simp; done) | (simp; omega) | omega)) | ((with_reducible refine Below.alloc ?_ ?_ _); rotate_left; focus (first | (simp; done) | (simp; omega) | omega)) | (with_reducible refine Below.drew ?_))
theorem drewHeap (w : World) : w.drew.heap = w.heap := rfl
def newW (k : Int) : List Nat := if k = 2 then [] else [1, 1, 1]
def newB (k : Int) : List UInt8 := if k = 2 then [0, 0, 0] else []
set_option maxRecDepth 100000 in
set_option maxHeartbeats 1600000 in
theorem ralloc_yes (C : Nat) (cells : Int) (lv : Value) (os : List RO) (c : Nat) (k : Int) (w : World) (h : RObjs C w lv os) (hC : C ≤ w.heap.size) (hb : ∀ o, o ∈ os → o.at_ ≤ 1000000) (hz : checkZ c k 3 0 = 0) (hc : c < 18446744073709551616) (hn : os.length < 20) (hlv : os = [] → lv = .slice none 0 0) (hcells : cells = 200) (hfit : (cellsZ c k 3 0) + 2 ≤ cells - (usedR os : Int)) :
    Calls Tryd.prog 17 #[.agg #[.int .i64 cells, lv, .int .u32 0], .int .u64 (c : Int), .int .i64 k, .int .i64 3, .int .u64 1] w fun e w' => ∃ lv', e = .returned (.tuple #[.agg #[.int .i64 cells, lv', .int .u32 0], .int .u64 (usedR os * 2 : Int), .int .i64 0]) ∧ RObjs C w' lv' (os ++ [⟨usedR os, c, k, newW k, newB k⟩]) ∧ Below w.heap.size w w' := by
  obtain ⟨i0, hi0, hz0, hz1, hz2⟩ := info_parts objInfo
  obtain ⟨i1, hi1, hy0, hy1, hy2⟩ := info_parts wordInfo
  have PK := Lib.hid (fun W => rpack_yes (c : Int) k 3 0 false (by omega) (by omega) hz W)
  have CL := Lib.hid (fun W => rcells_any (c : Int) k 3 0 false (by omega) (by omega) W)
  have RU := Lib.hid (fun W (hW : Below w.heap.size w W) => rused_any C cells lv os W (h.later hW) hb)
  have hzz := checkZ_ok.1 hz
  have hcb := cellsZ_bd (c : Int) k 3 0
  obtain ⟨a, cap, xs, rfl, h1, h2, h3, h4, h5, h6⟩ := h
  have HR := Lib.hid h3; have HX := Lib.hid h4
  have hxl := h4.1
  clear h3 h4 hz hb
  generalize cellsZ (c : Int) k 3 0 = cr at *
  generalize packZ k 3 0 false = pk at *
  generalize usedR os = us at *
  subst hcells
  go_enter Tryd.func17, Tryd.ntmps17
  go_wp2_with fail
  obtain ⟨w3, hw3⟩ : ∃ w3, w3 = ((w.alloc (.cells #[.int .i64 200, .slice a os.length cap, .int .u32 0] 31)).alloc (.cells #[.int .i64 0, .slice none 0 0, .int .u32 0] 31)).alloc (.cells #[.int .u64 (c : Int), .int .i64 k, .int .i64 3, .int .u32 0, .bool false] 94) := ⟨_, rfl⟩
  rw [← hw3]
  have e3 : w3.heap[w.heap.size]? = some (.cells #[.int .i64 200, .slice a os.length cap, .int .u32 0] 31 (0, 0)) := by rw [hw3, Below.heap_alloc _ _ _ (by simp; omega), Below.heap_alloc _ _ _ (by simp)]; exact heap_alloc_new w _
  have r3 : w3.heap[w.heap.size + 1]? = some (.cells #[.int .i64 0, .slice none 0 0, .int .u32 0] 31 (0, 0)) := by
    have := heap_alloc_new (w.alloc (.cells #[.int .i64 200, .slice a os.length cap, .int .u32 0] 31)) (.cells #[.int .i64 0, .slice none 0 0, .int .u32 0] 31)
    rw [hw3, Below.heap_alloc _ _ _ (by simp)]; simpa using this
  have d3 : w3.heap[w.heap.size + 1 + 1]? = some (.cells #[.int .u64 (c : Int), .int .i64 k, .int .i64 3, .int .u32 0, .bool false] 94 (0, 0)) := by
    have := heap_alloc_new ((w.alloc (.cells #[.int .i64 200, .slice a os.length cap, .int .u32 0] 31)).alloc (.cells #[.int .i64 0, .slice none 0 0, .int .u32 0] 31)) (.cells #[.int .u64 (c : Int), .int .i64 k, .int .i64 3, .int .u32 0, .bool false] 94)
    rw [hw3]; simpa using this
  have b3 : Below w.heap.size w w3 := by rw [hw3]; exact (((Below.refl _ w).alloc (Nat.le_refl _) _).alloc (by simp) _).alloc (by simp; omega) _
  have hz3 : w3.heap.size = w.heap.size + 1 + 1 + 1 := by rw [hw3]; simp
  clear hw3
  refine (PK.out w3).mono ?_
  rintro e w4 ⟨rfl, hg4⟩
  have hz4 := hg4.size
  have d4 := (hg4.block (w.heap.size + 1 + 1) (by omega)).trans d3
  have x0 := cellO d4 0
  have x1 := cellO d4 1
  have x2 := cellO d4 2
  have x3 := cellO d4 3
  have x4 := cellO d4 4
  simp at x0 x1 x2 x3 x4
  have m4 : w.heap.size + 1 + 1 < w4.heap.size := by omega
  have G4 := Lib.hid hg4; have B3 := Lib.hid b3; have E3 := Lib.hid e3; have R3 := Lib.hid r3; have D3 := Lib.hid d3; have D4 := Lib.hid d4
  clear hg4 b3 e3 r3 d3 d4
  go_wp2_with fail
  obtain ⟨w5, hw5⟩ : ∃ w5, w5 = w4.alloc (.cells #[.int .u64 (c : Int), .int .u64 pk] 95) := ⟨_, rfl⟩
  rw [← hw5]
  have g5 : Below w3.heap.size w3 w5 := by rw [hw5]; exact G4.out.alloc G4.out.size _
  clear hw5
  refine (CL.out w5).mono ?_
  rintro e w6 ⟨rfl, hg6⟩
  have g6 := g5.trans (hg6.mono g5.size)
  have hz6 := g6.size
  have e6 := (g6.block w.heap.size (by omega)).trans E3.out
  have d6 := (g6.block (w.heap.size + 1 + 1) (by omega)).trans D3.out
  have x0 := cellO d6 0
  have x1 := cellO d6 1
  have x2 := cellO d6 2
  have x3 := cellO d6 3
  have x4 := cellO d6 4
  have y0 := cellO e6 0
  have y1 := cellO e6 1
  have y2 := cellO e6 2
  simp at x0 x1 x2 x3 x4 y0 y1 y2
  have m1 : w.heap.size < w6.heap.size := by omega
  have m2 : w.heap.size + 1 + 1 < w6.heap.size := by omega
  have G6 := Lib.hid g6; have B6 := Lib.hid (B3.out.trans (g6.mono B3.out.size)); have E6 := Lib.hid e6; have D6 := Lib.hid d6
  have RL := Lib.hid (fun W (hW : Below w6.heap.size w6 W) => RU.out W (B6.out.trans (hW.mono B6.out.size)))
  clear g5 hg6 g6 e6 d6
  go_upto_region 6 with fail
  (refine wp_region_later (by kernel_rfl) (by kernel_rfl) ?_; (repeat (go_big_quiet_step (((go_at_call 43; with_reducible exact calls_later_if RL.out))))); refine wpQuiet_nil ?_; intro w7 hw4; have hg := later_elim hw4; clear hw4)
  have g7 := G6.out.trans (hg.mono G6.out.size)
  have G7 := Lib.hid g7
  have d7 := (g7.block (w.heap.size + 1 + 1) (by omega)).trans D3.out
  have e7 := (g7.block w.heap.size (by omega)).trans E3.out
  have B7 := Lib.hid (B3.out.trans (g7.mono B3.out.size))
  have hz7 := hg.size
  clear g7 hg y0 y1 y2 x0 x1 x2 x3 x4 G6 B6 E6 D6
  have x0 := cellO d7 0
  have x1 := cellO d7 1
  have x2 := cellO d7 2
  have x3 := cellO d7 3
  have x4 := cellO d7 4
  have y0 := cellO e7 0
  have y1 := cellO e7 1
  have y2 := cellO e7 2
  simp at x0 x1 x2 x3 x4 y0 y1 y2
  have m1 : w.heap.size < w7.heap.size := by omega
  have m2 : w.heap.size + 1 + 1 < w7.heap.size := by omega
  have FX := Lib.hid (show ∀ W, Below w7.heap.size w7 W → W.cell? ⟨w.heap.size, 0, none⟩ = some (.int .i64 200) ∧ W.cell? ⟨w.heap.size, 1, none⟩ = some (.slice a os.length cap) ∧ W.cell? ⟨w.heap.size, 2, none⟩ = some (.int .u32 0) ∧ W.cell? ⟨w.heap.size + 1 + 1, 0, none⟩ = some (.int .u64 (c : Int)) ∧ W.cell? ⟨w.heap.size + 1 + 1, 1, none⟩ = some (.int .i64 k) ∧ W.cell? ⟨w.heap.size + 1 + 1, 2, none⟩ = some (.int .i64 3) ∧ W.cell? ⟨w.heap.size + 1 + 1, 3, none⟩ = some (.int .u32 0) ∧ W.cell? ⟨w.heap.size + 1 + 1, 4, none⟩ = some (.bool false) from fun W hh => ⟨(hh.cell (p := ⟨w.heap.size, 0, none⟩) m1).trans y0, (hh.cell (p := ⟨w.heap.size, 1, none⟩) m1).trans y1, (hh.cell (p := ⟨w.heap.size, 2, none⟩) m1).trans y2, (hh.cell (p := ⟨w.heap.size + 1 + 1, 0, none⟩) m2).trans x0, (hh.cell (p := ⟨w.heap.size + 1 + 1, 1, none⟩) m2).trans x1, (hh.cell (p := ⟨w.heap.size + 1 + 1, 2, none⟩) m2).trans x2, (hh.cell (p := ⟨w.heap.size + 1 + 1, 3, none⟩) m2).trans x3, (hh.cell (p := ⟨w.heap.size + 1 + 1, 4, none⟩) m2).trans x4⟩)
  have FZ := Lib.hid (show ∀ w8 : World, w8.heap[w7.heap.size]? = some (.cells #[.int .i64 0, .int .u64 0, .int .i64 0, .int .i64 0, .int .u32 0, .bool false, .slice none 0 0, .slice none 0 0] 100 (0, 0)) → w8.cell? ⟨w7.heap.size, 0, none⟩ = some (.int .i64 0) ∧ w8.cell? ⟨w7.heap.size, 1, none⟩ = some (.int .u64 0) ∧ w8.cell? ⟨w7.heap.size, 2, none⟩ = some (.int .i64 0) ∧ w8.cell? ⟨w7.heap.size, 3, none⟩ = some (.int .i64 0) ∧ w8.cell? ⟨w7.heap.size, 4, none⟩ = some (.int .u32 0) ∧ w8.cell? ⟨w7.heap.size, 5, none⟩ = some (.bool false) ∧ w8.cell? ⟨w7.heap.size, 6, none⟩ = some (.slice none 0 0) ∧ w8.cell? ⟨w7.heap.size, 7, none⟩ = some (.slice none 0 0) ∧ w8.frozen? ⟨w7.heap.size, 0, none⟩ = false ∧ w8.frozen? ⟨w7.heap.size, 1, none⟩ = false ∧ w8.frozen? ⟨w7.heap.size, 2, none⟩ = false ∧ w8.frozen? ⟨w7.heap.size, 3, none⟩ = false ∧ w8.frozen? ⟨w7.heap.size, 4, none⟩ = false ∧ w8.frozen? ⟨w7.heap.size, 5, none⟩ = false ∧ w8.frozen? ⟨w7.heap.size, 6, none⟩ = false ∧ w8.frozen? ⟨w7.heap.size, 7, none⟩ = false from fun w8 h => by
    refine ⟨?_, ?_, ?_, ?_, ?_, ?_, ?_, ?_, ?_, ?_, ?_, ?_, ?_, ?_, ?_, ?_⟩
    all_goals first
      | exact cellO h _
      | (unfold World.frozen?; rw [h]; rfl))
  have RLb := Lib.hid (show Calls Tryd.prog 43 #[.agg #[.int .i64 200, .slice a os.length cap, .int .u32 0]] w7.drew fun e w8 => e = .returned (.int .i64 (us : Int)) ∧ Below w7.heap.size w7 w8 ∧ (w8.cell? ⟨w.heap.size, 0, none⟩ = some (.int .i64 200) ∧ w8.cell? ⟨w.heap.size, 1, none⟩ = some (.slice a os.length cap) ∧ w8.cell? ⟨w.heap.size, 2, none⟩ = some (.int .u32 0) ∧ w8.cell? ⟨w.heap.size + 1 + 1, 0, none⟩ = some (.int .u64 (c : Int)) ∧ w8.cell? ⟨w.heap.size + 1 + 1, 1, none⟩ = some (.int .i64 k) ∧ w8.cell? ⟨w.heap.size + 1 + 1, 2, none⟩ = some (.int .i64 3) ∧ w8.cell? ⟨w.heap.size + 1 + 1, 3, none⟩ = some (.int .u32 0) ∧ w8.cell? ⟨w.heap.size + 1 + 1, 4, none⟩ = some (.bool false)) from (RU.out _ (B7.out.drew)).mono fun e w8 h => by
    have hh : Below w7.heap.size w7 w8 := (Below.refl _ w7).drew.trans h.2
    exact ⟨h.1, hh, FX.out w8 hh⟩)
  have RLa := Lib.hid (show Calls Tryd.prog 43 #[.agg #[.int .i64 200, .slice a os.length cap, .int .u32 0]] (w7.alloc (.cells #[.int .i64 0, .int .u64 0, .int .i64 0, .int .i64 0, .int .u32 0, .bool false, .slice none 0 0, .slice none 0 0] 100)).drew fun e w8 => e = .returned (.int .i64 (us : Int)) ∧ Below w7.heap.size w7 w8 ∧ (w8.cell? ⟨w.heap.size, 0, none⟩ = some (.int .i64 200) ∧ w8.cell? ⟨w.heap.size, 1, none⟩ = some (.slice a os.length cap) ∧ w8.cell? ⟨w.heap.size, 2, none⟩ = some (.int .u32 0) ∧ w8.cell? ⟨w.heap.size + 1 + 1, 0, none⟩ = some (.int .u64 (c : Int)) ∧ w8.cell? ⟨w.heap.size + 1 + 1, 1, none⟩ = some (.int .i64 k) ∧ w8.cell? ⟨w.heap.size + 1 + 1, 2, none⟩ = some (.int .i64 3) ∧ w8.cell? ⟨w.heap.size + 1 + 1, 3, none⟩ = some (.int .u32 0) ∧ w8.cell? ⟨w.heap.size + 1 + 1, 4, none⟩ = some (.bool false)) ∧ Hid (w8.heap[w7.heap.size]? = some (.cells #[.int .i64 0, .int .u64 0, .int .i64 0, .int .i64 0, .int .u32 0, .bool false, .slice none 0 0, .slice none 0 0] 100 (0, 0))) ∧ (w8.cell? ⟨w7.heap.size, 0, none⟩ = some (.int .i64 0) ∧ w8.cell? ⟨w7.heap.size, 1, none⟩ = some (.int .u64 0) ∧ w8.cell? ⟨w7.heap.size, 2, none⟩ = some (.int .i64 0) ∧ w8.cell? ⟨w7.heap.size, 3, none⟩ = some (.int .i64 0) ∧ w8.cell? ⟨w7.heap.size, 4, none⟩ = some (.int .u32 0) ∧ w8.cell? ⟨w7.heap.size, 5, none⟩ = some (.bool false) ∧ w8.cell? ⟨w7.heap.size, 6, none⟩ = some (.slice none 0 0) ∧ w8.cell? ⟨w7.heap.size, 7, none⟩ = some (.slice none 0 0) ∧ w8.frozen? ⟨w7.heap.size, 0, none⟩ = false ∧ w8.frozen? ⟨w7.heap.size, 1, none⟩ = false ∧ w8.frozen? ⟨w7.heap.size, 2, none⟩ = false ∧ w8.frozen? ⟨w7.heap.size, 3, none⟩ = false ∧ w8.frozen? ⟨w7.heap.size, 4, none⟩ = false ∧ w8.frozen? ⟨w7.heap.size, 5, none⟩ = false ∧ w8.frozen? ⟨w7.heap.size, 6, none⟩ = false ∧ w8.frozen? ⟨w7.heap.size, 7, none⟩ = false) from (RU.out _ ((B7.out.alloc B7.out.size _).drew)).mono fun e w8 h => by
    have hh : Below w7.heap.size w7 w8 := (((Below.refl _ w7).alloc (Nat.le_refl _) _).drew).trans (h.2.mono (by simp))
    have hq := (h.2.block w7.heap.size (by simp)).trans (heap_alloc_new w7 _)
    exact ⟨h.1, hh, FX.out w8 hh, Lib.hid hq, FZ.out w8 hq⟩)
  have D7 := Lib.hid d7; have E7 := Lib.hid e7
  clear d7 e7
  go_upto_region 8 with fail
  go_cut [17] from 43 to 46 (fun p wx => ∃ ob, p = .pointer (some ⟨ob, 0, none⟩) ∧ w7.heap.size ≤ ob ∧ Below w7.heap.size w7 wx ∧ wx.heap[ob]? = some (.cells #[.int .i64 (us : Int), .int .u64 (c : Int), .int .i64 k, .int .i64 3, .int .u32 0, .bool false, .slice none 0 0, .slice none 0 0] 100 (0, 0)))
  case first =>
    go_region_held3 (fun w' => w'.cell? ⟨w.heap.size, 0, none⟩ = some (.int .i64 200) ∧ w'.cell? ⟨w.heap.size, 1, none⟩ = some (.slice a os.length cap) ∧ w'.cell? ⟨w.heap.size, 2, none⟩ = some (.int .u32 0) ∧ w'.cell? ⟨w.heap.size + 1 + 1, 0, none⟩ = some (.int .u64 (c : Int)) ∧ w'.cell? ⟨w.heap.size + 1 + 1, 1, none⟩ = some (.int .i64 k) ∧ w'.cell? ⟨w.heap.size + 1 + 1, 2, none⟩ = some (.int .i64 3) ∧ w'.cell? ⟨w.heap.size + 1 + 1, 3, none⟩ = some (.int .u32 0) ∧ w'.cell? ⟨w.heap.size + 1 + 1, 4, none⟩ = some (.bool false))
      (first | (with_reducible exact ⟨z0, z1, z2, z3, z4, z5, z6, z7⟩) | (refine FX.out _ ?_; repeat (first | with_reducible exact Below.refl _ _ | ((with_reducible refine Below.setCell ?_ ?_ _); rotate_left; focus (first | (simp; done) | (simp; omega) | omega)) | ((with_reducible refine Below.alloc ?_ ?_ _); rotate_left; focus (first | (simp; done) | (simp; omega) | omega)) | (with_reducible refine Below.drew ?_) | ((with_reducible refine Below.trans ?_ (Below.mono hh8 ?_)); rotate_left; focus (first | (simp; done) | (simp; omega) | omega)))) | (refine FX.out _ ?_; repeat (first | with_reducible exact Below.refl _ _ | ((with_reducible refine Below.setCell ?_ ?_ _); rotate_left; focus (first | (simp; done) | (simp; omega) | omega)) | ((with_reducible refine Below.alloc ?_ ?_ _); rotate_left; focus (first | (simp; done) | (simp; omega) | omega)) | (with_reducible refine Below.drew ?_))))
      (first | (go_at_call 43; with_reducible (refine RLb.out.mono ?_); rintro e w8 ⟨rfl, hh8, z0, z1, z2, z3, z4, z5, z6, z7⟩; have hs8 := hh8.size) | (go_at_call 43; with_reducible (refine RLa.out.mono ?_); rintro e w8 ⟨rfl, hh8, ⟨z0, z1, z2, z3, z4, z5, z6, z7⟩, HQ, p0, p1, p2, p3, p4, p5, p6, p7, f0, f1, f2, f3, f4, f5, f6, f7⟩; have hs8 := hh8.size))
    all_goals (go_wp2_with fail)
    all_goals go_meet
    · exact ⟨w8.heap.size, rfl, hs8, hh8.alloc hs8 _, heap_alloc_new w8 _⟩
    · refine ⟨w7.heap.size, rfl, Nat.le_refl _, ?_, ?_⟩
      · repeat (first | with_reducible exact Below.refl _ _ | ((with_reducible refine Below.setCell ?_ ?_ _); rotate_left; focus (first | (simp; done) | (simp; omega) | omega)) | ((with_reducible refine Below.alloc ?_ ?_ _); rotate_left; focus (first | (simp; done) | (simp; omega) | omega)) | (with_reducible refine Below.drew ?_) | ((with_reducible refine Below.trans ?_ (Below.mono hh8 ?_)); rotate_left; focus (first | (simp; done) | (simp; omega) | omega)))
      · rw [heap_setCell_same _ _ _ _ _ _ (heap_setCell_same _ _ _ _ _ _ (heap_setCell_same _ _ _ _ _ _ (heap_setCell_same _ _ _ _ _ _ (heap_setCell_same _ _ _ _ _ _ (heap_setCell_same _ _ _ _ _ _ (heap_setCell_same _ _ _ _ _ _ (heap_setCell_same _ _ _ _ _ _ HQ.out)))))))]
        rfl
  case rest =>
    obtain ⟨ob, rfl, hob, hg8, ho8⟩ := hcut
    obtain ⟨w8, hw8⟩ : ∃ w8, w8 = wc := ⟨_, rfl⟩
    rw [← hw8] at hg8 ho8 ⊢
    clear hw8 x0 x1 x2 x3 x4 y0 y1 y2 RLa RLb FX FZ
    have hob8 : ob < w8.heap.size := (Array.getElem?_eq_some_iff.1 ho8).1
    have G8 := Lib.hid hg8; have O8 := Lib.hid ho8
    clear hg8 ho8
    go_upto_if 48 with fail
    go_cut [18, 48] from 49 to 62 (fun s18 s48 wx => ∃ wa wn wc ba bn bc, wx.heap[ob]? = some (.cells #[.int .i64 (us : Int), .int .u64 (c : Int), .int .i64 k, .int .i64 3, .int .u32 0, .bool false, .slice wa wn wc, .slice ba bn bc] 100 (0, 0)) ∧ WordsAt wx (.slice wa wn wc) (newW k) ∧ BytesAt wx (.slice ba bn bc) (newB k) ∧ Up (ob + 1) (.slice wa wn wc) ∧ Up (ob + 1) (.slice ba bn bc) ∧ Below ob w8 wx)
    case first =>
      by_cases hk2 : k = 2
      · subst hk2
        have o8 := O8.out
        have v7 := cellO o8 7
        have f7 : w8.frozen? ⟨ob, 7, none⟩ = false := by unfold World.frozen?; rw [o8]; rfl
        simp at v7
        clear o8
        have hmk : ∀ W, (Instr.makeSlice 34 (.int .i64 3) (.int .i64 3)).run Tryd.prog W = .ok (.slice (some ⟨W.heap.size, 0, none⟩) 3 3) (W.alloc (.cells (madeCells #[.int .u8 0] 3) 5)) :=
          fun W => run_make_row' (P := Tryd.prog) 34 5 (.int .u8 0) 1 Tryd.underlying34 byteInfo rfl .i64 .i64 3 (by omega) (by omega) W
        go_wp2_with fail
        go_meet
        obtain ⟨w9, hw9⟩ : ∃ w9, w9 = w8.setCell ⟨ob, 7, none⟩ (.slice (some ⟨w8.heap.size, 0, none⟩) 3 3) := ⟨_, rfl⟩
        rw [← hw9]
        have hz9 : w9.heap.size = w8.heap.size := by rw [hw9]; simp [World.setCell]
        have hrow := World.rowIs_made w9 (.int .u8 0) 3 5
        have o9 : (w9.alloc (.cells (madeCells #[.int .u8 0] 3) 5)).heap[ob]? = some (.cells #[.int .i64 (us : Int), .int .u64 (c : Int), .int .i64 2, .int .i64 3, .int .u32 0, .bool false, .slice none 0 0, .slice (some ⟨w8.heap.size, 0, none⟩) 3 3] 100 (0, 0)) := by rw [Below.heap_alloc _ _ _ (by omega), hw9]; exact heap_setCell_same _ _ _ _ _ _ O8.out
        have b9 : Below ob w8 w9 := by rw [hw9]; exact (Below.refl _ _).setCell (by simp) _
        clear hw9
        rw [hz9] at hrow
        refine ⟨none, 0, 0, some ⟨w8.heap.size, 0, none⟩, 3, 3, o9, words_none _, ?_, up_none _ 0 0, up_some (by omega), b9.alloc (by omega) _⟩
        refine ⟨_, _, rfl, by decide, by unfold maxLen; omega, Or.inr ⟨w8.heap.size, 0, rfl, fun j hj => ?_⟩, fun h => by simp at h⟩
        simp [Lib.byteCells, newB] at hj
        rw [Nat.zero_add, hrow.cell hj]
        match j, hj with
        | 0, _ => rfl
        | 1, _ => rfl
        | 2, _ => rfl
      · have hkb : (k == 2) = false := by simpa using hk2
        rw [hkb]
        clear hkb
        go_wp2_with fail
        go_loopg [18] 3 (fun gg s18 wr => ∃ (j : Nat) (wa : Option Addr) (wn wc : Nat), gg = 3 - j ∧ j ≤ 3 ∧ s18 = .int .i64 (j : Int) ∧ wr.heap[ob]? = some (.cells #[.int .i64 (us : Int), .int .u64 (c : Int), .int .i64 k, .int .i64 3, .int .u32 0, .bool false, .slice wa wn wc, .slice none 0 0] 100 (0, 0)) ∧ wr.ownsRow (ob + 1) 38 1 (.slice wa wn wc) j (wordVals (List.replicate j 1)) ∧ Below ob w8 wr)
        case atStart => exact ⟨0, none, 0, 0, rfl, by omega, rfl, O8.out, World.ownsRow_nil _ _ _ _, Below.refl _ _⟩
        case round =>
          obtain ⟨j, wa, wn, wc, hgj, hj, rfl, hor, how, hgr⟩ := hrel
          have HGJ := Lib.hid hgj; have HOW := Lib.hid how; have HGR := Lib.hid hgr
          have hzr := hgr.size
          clear hgj
          by_cases hj3 : j < 3
          · have v6 := cellO hor 6
            have f6 : wr.frozen? ⟨ob, 6, none⟩ = false := by unfold World.frozen?; rw [hor]; rfl
            simp at v6
            have HOR := Lib.hid hor
            clear hor how hgr
            go_wp2_with (at_builtin; refine wpList_append_own _ rfl _ _ 23 rfl (ob + 1) 38 i1 (.int .u64 0) 1 8 Tryd.underlying23 hi1 hy0 hy1 hy2 rfl (by decide) _ _ _ rfl (HOW.out.alloc _) ⟨wr.heap.size, 0, none⟩ 1 1 [.int .u64 1] rfl rfl ?c1 ?c2 ?c3 ?c4 ?c5 ?_)
            case c1 =>
              intro j u hj
              match j, hj with
              | 0, hj => simp at hj; subst hj; simp [Addr.add]
            case c2 => intro u hu; simp at hu; subst hu; rfl
            case c3 => unfold maxLen; omega
            case c4 => omega
            case c5 => simp; omega
            intro v' w9 hown' hgrow _
            obtain ⟨a9, n9, c9, rfl⟩ : ∃ a9 n9 c9, v' = .slice a9 n9 c9 := by
              obtain ⟨-, ⟨rfl, -⟩ | ⟨g, cap, cur, rfl, -⟩⟩ := hown'
              · exact ⟨_, _, _, rfl⟩
              · exact ⟨_, _, _, rfl⟩
            have o9 : w9.heap[ob]? = _ := ((hgrow.block ob (by simp; omega) (fun e => by have := (HOW.out.lt ob e.symm).1; omega)).trans (Below.heap_alloc _ _ _ (by omega))).trans HOR.out
            have ho9 : w9.ownsRow (ob + 1) 38 1 (.slice a9 n9 c9) (j + 1) (wordVals (List.replicate (j + 1) 1)) := by
              rw [show wordVals (List.replicate (j + 1) 1) = wordVals (List.replicate j 1) ++ [.int .u64 1] by rw [List.replicate_succ']; simp [wordVals]]
              exact hown'
            have b9 : Below ob w8 w9 := (HGR.out.alloc (by omega) _).grown hgrow (by simp; omega) (fun q hq => by have := (HOW.out.lt q hq).1; omega)
            have v9 := cellO o9 6
            have f9 : w9.frozen? ⟨ob, 6, none⟩ = false := by unfold World.frozen?; rw [o9]; rfl
            simp at v9
            have O9 := Lib.hid o9; have HO9 := Lib.hid ho9; have B9 := Lib.hid b9
            clear hown' hgrow o9 ho9 b9 f6 v6
            go_wp2_with fail
            go_roundg (3 - (j + 1))
            case measure => rw [HGJ.out]; omega
            case rel => exact ⟨j + 1, a9, n9, c9, rfl, by omega, by go_num, heap_setCell_same _ _ _ _ _ _ O9.out, ownsRow_setCell_below HO9.out (by simp) _, B9.out.setCell (by simp) _⟩
          · obtain rfl : j = 3 := by omega
            have HOR := Lib.hid hor
            clear hor how hgr
            go_wp2_with fail
            go_meet
            refine ⟨wa, wn, wc, none, 0, 0, HOR.out, ?_, ?_, up_owns HOW.out (by omega), up_none _ 0 0, HGR.out⟩
            · have e : newW k = List.replicate 3 1 := by unfold newW; rw [if_neg hk2]; rfl
              rw [e]
              exact words_of_owns HOW.out
            · have e : newB k = [] := by unfold newB; rw [if_neg hk2]
              rw [e]
              exact ⟨none, 0, rfl, Nat.le_refl _, by unfold maxLen; omega, Or.inl rfl, fun _ => rfl⟩
    case rest =>
      obtain ⟨wa, wn, wc1, ba, bn, bc, ho9, hw9, hb9, hu1, hu2, hg9⟩ := hcut
      obtain ⟨w9, hw9e⟩ : ∃ w9, w9 = wc := ⟨_, rfl⟩
      rw [← hw9e] at ho9 hw9 hb9 hg9 ⊢
      clear hw9e
      have hs9 := hg9.size
      have mo : ob < w9.heap.size := by omega
      have mh : w.heap.size < w9.heap.size := by omega
      have g8 := G8.out.size
      have e9 := (hg9.block w.heap.size (by omega)).trans ((G8.out.block w.heap.size (by omega)).trans E7.out)
      have r9 := (hg9.block (w.heap.size + 1) (by omega)).trans ((G8.out.block (w.heap.size + 1) (by omega)).trans ((G7.out.block (w.heap.size + 1) (by omega)).trans R3.out))
      have B9 : Below w.heap.size w w9 := B7.out.trans ((G8.out.mono (by omega)).trans (hg9.mono (by omega)))
      have b1_ := cellO ho9 0; have b2_ := cellO ho9 1; have b3_ := cellO ho9 2; have b4_ := cellO ho9 3; have b5_ := cellO ho9 4; have b6_ := cellO ho9 5; have b7_ := cellO ho9 6; have b8_ := cellO ho9 7
      have y1 := cellO e9 1
      have fy : w9.frozen? ⟨w.heap.size, 1, none⟩ = false := by unfold World.frozen?; rw [e9]; rfl
      simp at b1_ b2_ b3_ b4_ b5_ b6_ b7_ b8_ y1
      have FX := Lib.hid (show ∀ W, Below w9.heap.size w9 W → W.cell? ⟨ob, 0, none⟩ = some (Value.int .i64 (us : Int)) ∧ W.cell? ⟨ob, 1, none⟩ = some (.int .u64 (c : Int)) ∧ W.cell? ⟨ob, 2, none⟩ = some (.int .i64 k) ∧ W.cell? ⟨ob, 3, none⟩ = some (.int .i64 3) ∧ W.cell? ⟨ob, 4, none⟩ = some (.int .u32 0) ∧ W.cell? ⟨ob, 5, none⟩ = some (.bool false) ∧ W.cell? ⟨ob, 6, none⟩ = some (.slice wa wn wc1) ∧ W.cell? ⟨ob, 7, none⟩ = some (.slice ba bn bc) ∧ W.cell? ⟨w.heap.size, 1, none⟩ = some (.slice a os.length cap) ∧ W.frozen? ⟨w.heap.size, 1, none⟩ = false from fun W hh => ⟨(hh.cell (p := ⟨ob, 0, none⟩) mo).trans b1_, (hh.cell (p := ⟨ob, 1, none⟩) mo).trans b2_, (hh.cell (p := ⟨ob, 2, none⟩) mo).trans b3_, (hh.cell (p := ⟨ob, 3, none⟩) mo).trans b4_, (hh.cell (p := ⟨ob, 4, none⟩) mo).trans b5_, (hh.cell (p := ⟨ob, 5, none⟩) mo).trans b6_, (hh.cell (p := ⟨ob, 6, none⟩) mo).trans b7_, (hh.cell (p := ⟨ob, 7, none⟩) mo).trans b8_, (hh.cell (p := ⟨w.heap.size, 1, none⟩) mh).trans y1, (hh.frozen (p := ⟨w.heap.size, 1, none⟩) mh).trans fy⟩)
      have HO1 := Lib.hid (show (w9.alloc (.cells #[] 100)).ownsRow w9.heap.size 100 8 (.slice (some ⟨w9.heap.size, 0, none⟩) 0 0) 0 [] from World.ownsRow_lit w9 #[] 0 (Nat.le_refl _) (by decide) rfl)
      have HO2 := Lib.hid (show ((w9.alloc (.cells #[] 100)).alloc (.cells #[.int .i64 (us : Int), .int .u64 (c : Int), .int .i64 k, .int .i64 3, .int .u32 0, .bool false, .slice wa wn wc1, .slice ba bn bc] 100)).ownsRow w9.heap.size 100 8 (.slice (some ⟨w9.heap.size, 0, none⟩) 0 0) 0 [] from HO1.out.alloc _)
      have HO3 := Lib.hid (show ((w9.alloc (.cells #[.int .i64 (us : Int), .int .u64 (c : Int), .int .i64 k, .int .i64 3, .int .u32 0, .bool false, .slice wa wn wc1, .slice ba bn bc] 100)).alloc (.cells #[] 100)).ownsRow w9.heap.size 100 8 (.slice (some ⟨w9.heap.size + 1, 0, none⟩) 0 0) 0 [] from by
        have := World.ownsRow_lit (base := w9.heap.size) (size := 8) (e := 100) (w9.alloc (.cells #[.int .i64 (us : Int), .int .u64 (c : Int), .int .i64 k, .int .i64 3, .int .u32 0, .bool false, .slice wa wn wc1, .slice ba bn bc] 100)) #[] 0 (by simp) (by decide) rfl
        simpa using this)
      have HXa := Lib.hid (show ((w9.alloc (.cells #[] 100)).alloc (.cells #[.int .i64 (us : Int), .int .u64 (c : Int), .int .i64 k, .int .i64 3, .int .u32 0, .bool false, .slice wa wn wc1, .slice ba bn bc] 100)).heap[w9.heap.size + 1]? = some (.cells #[.int .i64 (us : Int), .int .u64 (c : Int), .int .i64 k, .int .i64 3, .int .u32 0, .bool false, .slice wa wn wc1, .slice ba bn bc] 100 (0, 0)) from by
        have := heap_alloc_new (w9.alloc (.cells #[] 100)) (.cells #[.int .i64 (us : Int), .int .u64 (c : Int), .int .i64 k, .int .i64 3, .int .u32 0, .bool false, .slice wa wn wc1, .slice ba bn bc] 100)
        simpa using this)
      have HXb := Lib.hid (show ((w9.alloc (.cells #[.int .i64 (us : Int), .int .u64 (c : Int), .int .i64 k, .int .i64 3, .int .u32 0, .bool false, .slice wa wn wc1, .slice ba bn bc] 100)).alloc (.cells #[] 100)).heap[w9.heap.size]? = some (.cells #[.int .i64 (us : Int), .int .u64 (c : Int), .int .i64 k, .int .i64 3, .int .u32 0, .bool false, .slice wa wn wc1, .slice ba bn bc] 100 (0, 0)) from by
        rw [Below.heap_alloc _ _ _ (by simp)]
        exact heap_alloc_new w9 (.cells #[.int .i64 (us : Int), .int .u64 (c : Int), .int .i64 k, .int .i64 3, .int .u32 0, .bool false, .slice wa wn wc1, .slice ba bn bc] 100))
      have HV := Lib.hid (show ∀ u ∈ ([.int .i64 (us : Int), .int .u64 (c : Int), .int .i64 k, .int .i64 3, .int .u32 0, .bool false, .slice wa wn wc1, .slice ba bn bc] : List Value), u.oneCell' = true from by
        intro u hu
        simp at hu
        rcases hu with rfl | rfl | rfl | rfl | rfl | rfl | rfl | rfl <;> rfl)
      have HW9 := Lib.hid hw9; have HB9 := Lib.hid hb9; have U1 := Lib.hid hu1; have U2 := Lib.hid hu2; have GB9 := Lib.hid B9; have R9 := Lib.hid r9; have E9 := Lib.hid e9; have HO9 := Lib.hid ho9; have G9 := Lib.hid hg9
      clear hw9 hb9 hu1 hu2 B9 r9 e9 ho9 hg9
      have n1 : w9.heap.size ≠ w.heap.size := by omega
      have n2 : w9.heap.size ≠ ob := by omega
      unfold maxLen at h2
      go_upto_region 15 with fail
      go_cut [] from 63 to 70 (fun wx => ∃ (g4 c4 : Nat) (w4 : World), Below w9.heap.size w9 w4 ∧ w4.ownsRow w9.heap.size 100 8 (.slice (some ⟨g4, 0, none⟩) (os.length + 1) c4) (os.length + 1) (xs ++ ([.int .i64 (us : Int), .int .u64 (c : Int), .int .i64 k, .int .i64 3, .int .u32 0, .bool false, .slice wa wn wc1, .slice ba bn bc] : List Value)) ∧ wx = w4.setCell ⟨w.heap.size, 1, none⟩ (.slice (some ⟨g4, 0, none⟩) (os.length + 1) c4))
      case first =>
        rcases Nat.eq_zero_or_pos os.length with hol | hol
        · obtain rfl : os = [] := List.length_eq_zero_iff.1 hol
          obtain rfl : xs = [] := List.length_eq_zero_iff.1 (by simpa using hxl)
          have hv0 := hlv rfl
          simp only [Value.slice.injEq, List.length_nil] at hv0
          obtain ⟨rfl, -, rfl⟩ := hv0
          clear hlv
          go_region_law
            (first | (refine step_append_none rfl _ _ _ rfl w9.heap.size 100 i0 8 Tryd.underlying28 hi0 (.slice (some ⟨w9.heap.size, 0, none⟩) 0 0) 0 [] rfl HO1.out rfl ?_) | (refine step_append_none rfl _ _ _ rfl w9.heap.size 100 i0 8 Tryd.underlying28 hi0 (.slice (some ⟨w9.heap.size, 0, none⟩) 0 0) 0 [] rfl HO2.out rfl ?_) | (refine step_append_none rfl _ _ _ rfl w9.heap.size 100 i0 8 Tryd.underlying28 hi0 (.slice (some ⟨w9.heap.size + 1, 0, none⟩) 0 0) 0 [] rfl HO3.out rfl ?_) | (refine step_append_lies _ rfl _ _ _ rfl w9.heap.size 100 i0 _ 8 88 Tryd.underlying28 hi0 hz0 hz1 hz2 rfl (by omega) (.slice (some ⟨w9.heap.size, 0, none⟩) 0 0) 0 [] rfl HO2.out ⟨w9.heap.size + 1, 0, none⟩ 1 1 ([.int .i64 (us : Int), .int .u64 (c : Int), .int .i64 k, .int .i64 3, .int .u32 0, .bool false, .slice wa wn wc1, .slice ba bn bc] : List Value) rfl rfl (World.news_of_block (HXa.out)) HV.out (by omega) (by unfold maxLen; omega) (by omega) (by simp <;> omega) (w9.heap.size + 1 + 1) (by simp) ?_; intro g4 c4 w4 hown4 hgrow4 hat4 hlt4; rw [Nat.zero_add, List.nil_append] at hown4; rw [Nat.zero_add]; have hb4 : Below w9.heap.size w9 w4 := (((Below.refl _ w9).alloc (Nat.le_refl _) (.cells #[] 100)).alloc (by simp) (.cells #[.int .i64 (us : Int), .int .u64 (c : Int), .int .i64 k, .int .i64 3, .int .u32 0, .bool false, .slice wa wn wc1, .slice ba bn bc] 100)).drew.grown hgrow4 (by simp <;> omega) (fun p hp => by simp [Value.ownBlock] at hp <;> omega); obtain ⟨q0, q1, q2, q3, q4, q5, q6, q7, qy, qf⟩ := FX.out w4 hb4; have HO4 := Lib.hid hown4; have HB4 := Lib.hid hb4) | (refine step_append_lies _ rfl _ _ _ rfl w9.heap.size 100 i0 _ 8 88 Tryd.underlying28 hi0 hz0 hz1 hz2 rfl (by omega) (.slice (some ⟨w9.heap.size + 1, 0, none⟩) 0 0) 0 [] rfl HO3.out ⟨w9.heap.size, 0, none⟩ 1 1 ([.int .i64 (us : Int), .int .u64 (c : Int), .int .i64 k, .int .i64 3, .int .u32 0, .bool false, .slice wa wn wc1, .slice ba bn bc] : List Value) rfl rfl (World.news_of_block (HXb.out)) HV.out (by omega) (by unfold maxLen; omega) (by omega) (by simp <;> omega) (w9.heap.size + 1 + 1) (by simp) ?_; intro g4 c4 w4 hown4 hgrow4 hat4 hlt4; rw [Nat.zero_add, List.nil_append] at hown4; rw [Nat.zero_add]; have hb4 : Below w9.heap.size w9 w4 := (((Below.refl _ w9).alloc (Nat.le_refl _) (.cells #[.int .i64 (us : Int), .int .u64 (c : Int), .int .i64 k, .int .i64 3, .int .u32 0, .bool false, .slice wa wn wc1, .slice ba bn bc] 100)).alloc (by simp) (.cells #[] 100)).drew.grown hgrow4 (by simp <;> omega) (fun p hp => by simp [Value.ownBlock] at hp <;> omega); obtain ⟨q0, q1, q2, q3, q4, q5, q6, q7, qy, qf⟩ := FX.out w4 hb4; have HO4 := Lib.hid hown4; have HB4 := Lib.hid hb4))
          all_goals (go_wp2_with fail)
          all_goals go_meet
          all_goals exact ⟨_, _, _, HB4.out, HO4.out, rfl⟩
        · obtain ⟨b, q, rfl, hc⟩ : ∃ b q, a = some ⟨b, q, none⟩ ∧ ∀ j, j < xs.length → w.cell? ⟨b, q + j, none⟩ = xs[j]? := by
            rcases HR.out with hr | hr
            · rw [hr] at hxl; simp at hxl; omega
            · exact hr
          have HR := Lib.hid (show ∀ W, Below w9.heap.size w9 W → ∀ j u, xs[j]? = some u → W.cell? ((⟨b, q, none⟩ : Addr).add j) = some u from fun W hW => RowAt.add (RowAt.later (RowAt.later (Or.inr ⟨b, q, rfl, hc⟩) GB9.out) hW))
          have HN := Lib.hid HX.out.ones
          clear hc
          go_region_law
            (first | (refine step_append_lies _ (by rfl) _ _ _ (by rfl) w9.heap.size 100 i0 _ 8 88 Tryd.underlying28 hi0 hz0 hz1 hz2 rfl (by omega) (.slice (some ⟨w9.heap.size, 0, none⟩) 0 0) 0 [] (by rfl) HO1.out ⟨b, q, none⟩ os.length cap xs (by rfl) (by omega) (HR.out _ ((Below.refl _ w9).alloc (Nat.le_refl _) (.cells #[] 100)).drew) HN.out (by omega) (by unfold maxLen; omega) (by omega) (by simp <;> omega) (w9.heap.size + 1) (by simp) ?_; intro g3 c3 w3 hown3 hgrow3 hat3 hlt3; rw [Nat.zero_add, List.nil_append] at hown3; rw [Nat.zero_add]; have hb3 : Below w9.heap.size w9 w3 := ((Below.refl _ w9).alloc (Nat.le_refl _) (.cells #[] 100)).drew.grown hgrow3 (by simp <;> omega) (fun p hp => by simp [Value.ownBlock] at hp <;> omega); obtain ⟨z0, z1, z2, z3, z4, z5, z6, z7, zy, zf⟩ := FX.out w3 hb3; have hs3 := hb3.size; have ml3 : w.heap.size < w3.heap.size := (by omega); have mo3 : ob < w3.heap.size := (by omega); have hg3 := hown3.lt g3 rfl; have HO3_ := Lib.hid hown3; have HB3 := Lib.hid hb3; skip) | (refine step_append_lies _ (by rfl) _ _ _ (by rfl) w9.heap.size 100 i0 _ 8 88 Tryd.underlying28 hi0 hz0 hz1 hz2 rfl (by omega) (.slice (some ⟨w9.heap.size, 0, none⟩) 0 0) 0 [] (by rfl) HO2.out ⟨b, q, none⟩ os.length cap xs (by rfl) (by omega) (HR.out _ (((Below.refl _ w9).alloc (Nat.le_refl _) (.cells #[] 100)).alloc (by simp) (.cells #[.int .i64 (us : Int), .int .u64 (c : Int), .int .i64 k, .int .i64 3, .int .u32 0, .bool false, .slice wa wn wc1, .slice ba bn bc] 100)).drew) HN.out (by omega) (by unfold maxLen; omega) (by omega) (by simp <;> omega) (w9.heap.size + 1 + 1) (by simp) ?_; intro g3 c3 w3 hown3 hgrow3 hat3 hlt3; rw [Nat.zero_add, List.nil_append] at hown3; rw [Nat.zero_add]; have hb3 : Below w9.heap.size w9 w3 := (((Below.refl _ w9).alloc (Nat.le_refl _) (.cells #[] 100)).alloc (by simp) (.cells #[.int .i64 (us : Int), .int .u64 (c : Int), .int .i64 k, .int .i64 3, .int .u32 0, .bool false, .slice wa wn wc1, .slice ba bn bc] 100)).drew.grown hgrow3 (by simp <;> omega) (fun p hp => by simp [Value.ownBlock] at hp <;> omega); obtain ⟨z0, z1, z2, z3, z4, z5, z6, z7, zy, zf⟩ := FX.out w3 hb3; have hs3 := hb3.size; have ml3 : w.heap.size < w3.heap.size := (by omega); have mo3 : ob < w3.heap.size := (by omega); have hg3 := hown3.lt g3 rfl; have HO3_ := Lib.hid hown3; have HB3 := Lib.hid hb3; have hx3 := (hgrow3.block (w9.heap.size + 1) (by simp) (by simp [Value.ownBlock])).trans HXa.out; have HX3 := Lib.hid hx3; clear hx3) | (refine step_append_lies _ (by rfl) _ _ _ (by rfl) w9.heap.size 100 i0 _ 8 88 Tryd.underlying28 hi0 hz0 hz1 hz2 rfl (by omega) (.slice (some ⟨w9.heap.size + 1, 0, none⟩) 0 0) 0 [] (by rfl) HO3.out ⟨b, q, none⟩ os.length cap xs (by rfl) (by omega) (HR.out _ (((Below.refl _ w9).alloc (Nat.le_refl _) (.cells #[.int .i64 (us : Int), .int .u64 (c : Int), .int .i64 k, .int .i64 3, .int .u32 0, .bool false, .slice wa wn wc1, .slice ba bn bc] 100)).alloc (by simp) (.cells #[] 100)).drew) HN.out (by omega) (by unfold maxLen; omega) (by omega) (by simp <;> omega) (w9.heap.size + 1 + 1) (by simp) ?_; intro g3 c3 w3 hown3 hgrow3 hat3 hlt3; rw [Nat.zero_add, List.nil_append] at hown3; rw [Nat.zero_add]; have hb3 : Below w9.heap.size w9 w3 := (((Below.refl _ w9).alloc (Nat.le_refl _) (.cells #[.int .i64 (us : Int), .int .u64 (c : Int), .int .i64 k, .int .i64 3, .int .u32 0, .bool false, .slice wa wn wc1, .slice ba bn bc] 100)).alloc (by simp) (.cells #[] 100)).drew.grown hgrow3 (by simp <;> omega) (fun p hp => by simp [Value.ownBlock] at hp <;> omega); obtain ⟨z0, z1, z2, z3, z4, z5, z6, z7, zy, zf⟩ := FX.out w3 hb3; have hs3 := hb3.size; have ml3 : w.heap.size < w3.heap.size := (by omega); have mo3 : ob < w3.heap.size := (by omega); have hg3 := hown3.lt g3 rfl; have HO3_ := Lib.hid hown3; have HB3 := Lib.hid hb3; have hx3 := (hgrow3.block w9.heap.size (by simp <;> omega) (by simp [Value.ownBlock])).trans HXb.out; have HX4 := Lib.hid hx3; clear hx3) | (refine step_append_lies _ (by rfl) _ _ _ (by rfl) w9.heap.size 100 i0 _ 8 88 Tryd.underlying28 hi0 hz0 hz1 hz2 rfl (by omega) (.slice (some ⟨g3, 0, none⟩) os.length c3) os.length xs (by rfl) (HO3_.out.alloc _) ⟨w3.heap.size, 0, none⟩ 1 1 ([.int .i64 (us : Int), .int .u64 (c : Int), .int .i64 k, .int .i64 3, .int .u32 0, .bool false, .slice wa wn wc1, .slice ba bn bc] : List Value) (by rfl) (by rfl) (World.news_of_block (heap_alloc_new w3 _)) HV.out (by omega) (by unfold maxLen; omega) (by omega) (by simp; omega) (w3.heap.size + 1) (by simp) ?_; intro g4 c4 w4 hown4 hgrow4 hat4 hlt4; have hb4 : Below w9.heap.size w9 w4 := (HB3.out.alloc (by omega) _).grown hgrow4 (by simp; omega) (fun p hp => by simp [Value.ownBlock] at hp <;> omega); obtain ⟨q0, q1, q2, q3, q4, q5, q6, q7, qy, qf⟩ := FX.out w4 hb4; have HO4 := Lib.hid hown4; have HB4 := Lib.hid hb4) | (refine step_append_lies _ (by rfl) _ _ _ (by rfl) w9.heap.size 100 i0 _ 8 88 Tryd.underlying28 hi0 hz0 hz1 hz2 rfl (by omega) (.slice (some ⟨g3, 0, none⟩) os.length c3) os.length xs (by rfl) HO3_.out ⟨w9.heap.size + 1, 0, none⟩ 1 1 ([.int .i64 (us : Int), .int .u64 (c : Int), .int .i64 k, .int .i64 3, .int .u32 0, .bool false, .slice wa wn wc1, .slice ba bn bc] : List Value) (by rfl) (by rfl) (World.news_of_block (HX3.out)) HV.out (by omega) (by unfold maxLen; omega) (by omega) (by omega) (w3.heap.size) (by simp) ?_; intro g4 c4 w4 hown4 hgrow4 hat4 hlt4; have hb4 : Below w9.heap.size w9 w4 := (HB3.out).grown hgrow4 (by omega) (fun p hp => by simp [Value.ownBlock] at hp <;> omega); obtain ⟨q0, q1, q2, q3, q4, q5, q6, q7, qy, qf⟩ := FX.out w4 hb4; have HO4 := Lib.hid hown4; have HB4 := Lib.hid hb4) | (refine step_append_lies _ (by rfl) _ _ _ (by rfl) w9.heap.size 100 i0 _ 8 88 Tryd.underlying28 hi0 hz0 hz1 hz2 rfl (by omega) (.slice (some ⟨g3, 0, none⟩) os.length c3) os.length xs (by rfl) HO3_.out ⟨w9.heap.size, 0, none⟩ 1 1 ([.int .i64 (us : Int), .int .u64 (c : Int), .int .i64 k, .int .i64 3, .int .u32 0, .bool false, .slice wa wn wc1, .slice ba bn bc] : List Value) (by rfl) (by rfl) (World.news_of_block (HX4.out)) HV.out (by omega) (by unfold maxLen; omega) (by omega) (by omega) (w3.heap.size) (by simp) ?_; intro g4 c4 w4 hown4 hgrow4 hat4 hlt4; have hb4 : Below w9.heap.size w9 w4 := (HB3.out).grown hgrow4 (by omega) (fun p hp => by simp [Value.ownBlock] at hp <;> omega); obtain ⟨q0, q1, q2, q3, q4, q5, q6, q7, qy, qf⟩ := FX.out w4 hb4; have HO4 := Lib.hid hown4; have HB4 := Lib.hid hb4))
          all_goals (go_wp2_with fail)
          all_goals go_meet
          all_goals exact ⟨_, _, _, HB4.out, HO4.out, rfl⟩
      case rest =>
        obtain ⟨g4, c4, wA, bA, oA, hwc⟩ := hcut
        obtain ⟨wB, hwB⟩ : ∃ wB, wB = wc := ⟨_, rfl⟩
        rw [← hwB]
        rw [← hwB] at hwc
        clear hwB
        have sA := bA.size
        have eB : wB.heap[w.heap.size]? = some (.cells #[.int .i64 200, .slice (some ⟨g4, 0, none⟩) (os.length + 1) c4, .int .u32 0] 31 (0, 0)) := by rw [hwc]; exact heap_setCell_same _ _ _ _ _ _ ((bA.block _ mh).trans E9.out)
        have rB : wB.heap[w.heap.size + 1]? = some (.cells #[.int .i64 0, .slice none 0 0, .int .u32 0] 31 (0, 0)) := by rw [hwc, Below.heap_setCell _ _ _ _ (by simp)]; exact (bA.block _ (by omega)).trans R9.out
        have obB : wB.heap[ob]? = some (.cells #[.int .i64 (us : Int), .int .u64 (c : Int), .int .i64 k, .int .i64 3, .int .u32 0, .bool false, .slice wa wn wc1, .slice ba bn bc] 100 (0, 0)) := by rw [hwc, Below.heap_setCell _ _ _ _ (by simp; omega)]; exact (bA.block _ mo).trans HO9.out
        have sB : wB.heap.size = wA.heap.size := by rw [hwc]; simp [World.setCell]
        have BB : Below w.heap.size w wB := by rw [hwc]; exact (GB9.out.trans (bA.mono (by omega))).setCell (by simp) _
        have oB : wB.ownsRow w9.heap.size 100 8 (.slice (some ⟨g4, 0, none⟩) (os.length + 1) c4) (os.length + 1) (xs ++ ([.int .i64 (us : Int), .int .u64 (c : Int), .int .i64 k, .int .i64 3, .int .u32 0, .bool false, .slice wa wn wc1, .slice ba bn bc] : List Value)) := by rw [hwc]; exact ownsRow_setCell_below oA (by simp; omega) _
        have QB : ∀ q, ob + 1 ≤ q → q < w9.heap.size → wB.heap[q]? = w9.heap[q]? := fun q h1 h2 => by rw [hwc, Below.heap_setCell _ _ _ _ (by simp; omega)]; exact bA.block q h2
        have t0 := cellO eB 0; have t1 := cellO eB 1; have t2 := cellO eB 2
        have r0 := cellO rB 0; have r1 := cellO rB 1; have r2 := cellO rB 2
        have p0 := cellO obB 0
        have fz : ∀ i, wB.frozen? ⟨w.heap.size + 1, i, none⟩ = false := fun i => by unfold World.frozen?; rw [rB]; rfl
        have fz0 := fz 0
        have fz1 := fz 1
        have fz2 := fz 2
        simp at t0 t1 t2 r0 r1 r2 p0
        have EB := Lib.hid eB; have RB := Lib.hid rB; have BBh := Lib.hid BB; have OB := Lib.hid oB; have QBh := Lib.hid QB
        clear eB rB obB BB oB QB fz hwc oA bA b1_ b2_ b3_ b4_ b5_ b6_ b7_ b8_ y1 fy
        go_upto_region 16 with fail
        go_region
        all_goals (go_wp2_with fail)
        obtain ⟨w5, hw5⟩ : ∃ w5, w5 = (((wB.setCell ⟨w.heap.size + 1, 0, none⟩ (.int .i64 200)).setCell ⟨w.heap.size + 1, 1, none⟩ (.slice (some ⟨g4, 0, none⟩) (os.length + 1) c4)).setCell ⟨w.heap.size + 1, 2, none⟩ (.int .u32 0)).drew := ⟨_, rfl⟩
        rw [← hw5]
        have rr : w5.heap[w.heap.size + 1]? = some (.cells #[.int .i64 200, .slice (some ⟨g4, 0, none⟩) (os.length + 1) c4, .int .u32 0] 31 (0, 0)) := by
          rw [hw5, drewHeap, heap_setCell_same _ _ _ _ _ _ (heap_setCell_same _ _ _ _ _ _ (heap_setCell_same _ _ _ _ _ _ RB.out))]; rfl
        have q5 : ∀ q, q ≠ w.heap.size + 1 → w5.heap[q]? = wB.heap[q]? := fun q hq => by rw [hw5, drewHeap, Below.heap_setCell _ _ _ _ hq, Below.heap_setCell _ _ _ _ hq, Below.heap_setCell _ _ _ _ hq]
        have hz5 : w5.heap.size = wB.heap.size := by rw [hw5, drewHeap]; simp [World.setCell]
        have b5 : Below w.heap.size w w5 := by rw [hw5]; exact (((BBh.out.setCell (by simp) _).setCell (by simp) _).setCell (by simp) _).drew
        have o5 : w5.ownsRow w9.heap.size 100 8 (.slice (some ⟨g4, 0, none⟩) (os.length + 1) c4) (os.length + 1) (xs ++ ([.int .i64 (us : Int), .int .u64 (c : Int), .int .i64 k, .int .i64 3, .int .u32 0, .bool false, .slice wa wn wc1, .slice ba bn bc] : List Value)) := by rw [hw5]; exact ownsRow_setCell_below (ownsRow_setCell_below (ownsRow_setCell_below OB.out (by simp; omega) _) (by simp; omega) _) (by simp; omega) _
        have v0 := cellO rr 0; have v1 := cellO rr 1; have v2 := cellO rr 2
        simp at v0 v1 v2
        have hst : ∀ q, ob + 1 ≤ q → q < w9.heap.size → w5.heap[q]? = w9.heap[q]? := fun q l1 l2 => (q5 q (by omega)).trans (QBh.out q l1 l2)
        have hcs : RCells C w5 (xs ++ ([.int .i64 (us : Int), .int .u64 (c : Int), .int .i64 k, .int .i64 3, .int .u32 0, .bool false, .slice wa wn wc1, .slice ba bn bc] : List Value)) (os ++ [⟨us, c, k, newW k, newB k⟩]) :=
          (HX.out.later b5).append (RCells.one (o := ⟨us, c, k, newW k, newB k⟩) (HW9.out.stays U1.out hst) (HB9.out.stays U2.out hst) ⟨fun b o n c e => Nat.le_trans (by omega) (U1.out b o n c e), fun b o n c e => Nat.le_trans (by omega) (U2.out b o n c e)⟩)
        refine bodyPost_ret (v := .tuple #[.agg #[.int .i64 200, .slice (some ⟨g4, 0, none⟩) (os.length + 1) c4, .int .u32 0], .int .u64 (us * 2 : Int), .int .i64 0]) (by simp [results, Tryd.results17, go_sem, v0, v1, v2]) rfl ⟨_, rfl, robjs_of_owns o5 (by omega) hcs, b5⟩
end Go.Proofs.YtaillinlbbhdkaaDoor
