/- The program's Decode. -/
import Derived.Test.YtnajgpefmknmpaaDoorCodeH
import Derived.StillTailTactics
import Derived.Deep.Cut
import Derived.Deep.CutRange
import Derived.Deep.RegionHeld3
namespace Go.Proofs.YtnajgpefmknmpaaDoor
open Go.RowKit
set_option linter.unusedVariables false
def decI (l : List UInt8) (p : Int) : Ins × Int × Int :=
  if p < 0 ∨ (l.length : Int) < p then (⟨0, 0, 0⟩, 0, 1)
  else if p = l.length then (⟨0, 0, 0⟩, 0, 4)
  else if 20 ≤ (l.getD p.toNat 0).toNat then (⟨0, 0, 0⟩, 0, 3)
  else if l.length < p.toNat + 1 + (fmOf (l.getD p.toNat 0).toNat).a + (fmOf (l.getD p.toNat 0).toNat).b then (⟨0, 0, 0⟩, 0, 4)
  else (⟨(l.getD p.toNat 0).toNat, getZ ((l.drop (p.toNat + 1)).take (fmOf (l.getD p.toNat 0).toNat).a) (fmOf (l.getD p.toNat 0).toNat).sg,
    getZ ((l.drop (p.toNat + 1 + (fmOf (l.getD p.toNat 0).toNat).a)).take (fmOf (l.getD p.toNat 0).toNat).b) false⟩, (p.toNat : Int) + 1 + (fmOf (l.getD p.toNat 0).toNat).a + (fmOf (l.getD p.toNat 0).toNat).b, 0)
def insV (x : Ins) : Value := .agg #[.int .i64 x.op, .int .i64 x.a, .int .i64 x.b]
def decV (r : Ins × Int × Int) : Value := .tuple #[insV r.1, .int .i64 r.2.1, .int .i64 r.2.2]
theorem dec_arg {l : List UInt8} {p : Int} (h : p < 0 ∨ (l.length : Int) < p) : decI l p = (⟨0, 0, 0⟩, 0, 1) := if_pos h
theorem dec_end (l : List UInt8) : decI l l.length = (⟨0, 0, 0⟩, 0, 4) := by
  unfold decI; rw [if_neg (by omega), if_pos rfl]
theorem dec_form {l : List UInt8} {k : Nat} (h : k < l.length) (h2 : 20 ≤ (l.getD k 0).toNat) : decI l k = (⟨0, 0, 0⟩, 0, 3) := by
  unfold decI; rw [if_neg (by omega), if_neg (by omega), if_pos (by simpa using h2)]
theorem dec_short {l : List UInt8} {k : Nat} (h : k < l.length) (h2 : (l.getD k 0).toNat < 20) (h3 : l.length < k + 1 + (fmOf (l.getD k 0).toNat).a + (fmOf (l.getD k 0).toNat).b) : decI l k = (⟨0, 0, 0⟩, 0, 4) := by
  unfold decI; rw [if_neg (by omega), if_neg (by omega), if_neg (by simpa using h2), if_pos (by simpa using h3)]
theorem dec_yes {l : List UInt8} {k : Nat} (h : k < l.length) (h2 : (l.getD k 0).toNat < 20) (h3 : ¬ l.length < k + 1 + (fmOf (l.getD k 0).toNat).a + (fmOf (l.getD k 0).toNat).b) :
    decI l k = (⟨(l.getD k 0).toNat, getZ ((l.drop (k + 1)).take (fmOf (l.getD k 0).toNat).a) (fmOf (l.getD k 0).toNat).sg, getZ ((l.drop (k + 1 + (fmOf (l.getD k 0).toNat).a)).take (fmOf (l.getD k 0).toNat).b) false⟩,
      (k : Int) + 1 + (fmOf (l.getD k 0).toNat).a + (fmOf (l.getD k 0).toNat).b, 0) := by
  unfold decI; rw [if_neg (by omega), if_neg (by omega), if_neg (by simpa using h2), if_neg (by simpa using h3)]
  simp only [Int.toNat_natCast]
/-- a form out of the array by value -/
theorem forms_at (c : Nat) (h : c < 20) (W : World) : (Instr.index 59 formsV (.int .u8 (c : Int))).run Tryd.prog W = .ok (.agg (fmC (fmOf c)).toArray) W := by
  obtain rfl | rfl | rfl | rfl | rfl | rfl | rfl | rfl | rfl | rfl | rfl | rfl | rfl | rfl | rfl | rfl | rfl | rfl | rfl | rfl : c = 0 ∨ c = 1 ∨ c = 2 ∨ c = 3 ∨ c = 4 ∨ c = 5 ∨ c = 6 ∨ c = 7 ∨ c = 8 ∨ c = 9 ∨ c = 10 ∨ c = 11 ∨ c = 12 ∨ c = 13 ∨ c = 14 ∨ c = 15 ∨ c = 16 ∨ c = 17 ∨ c = 18 ∨ c = 19 := by omega
  all_goals kernel_rfl
set_option maxRecDepth 100000 in
set_option maxHeartbeats 1000000 in
theorem dec_bad (v : Value) (l : List UInt8) (p : Int) (w : World) (h : BytesAt w v l) (hl : l.length ≤ 100000) (hp : p < 0 ∨ (l.length : Int) < p) :
    Calls Tryd.prog 12 #[v, .int .i64 p] w fun e w' => e = .returned (decV (decI l p)) ∧ Below w.heap.size w w' := by
  rw [dec_arg hp]
  obtain ⟨a, cap, rfl, -⟩ := h
  rcases hp with hp | hp
  all_goals
    go_enter Tryd.func12, Tryd.ntmps12
    go_wp2_with fail
    all_goals exact bodyPost_ret (v := decV (⟨0, 0, 0⟩, 0, 1)) (by simp [results, Tryd.results12, go_sem, decV, insV]) rfl ⟨rfl, by repeat (first | with_reducible exact Below.refl _ _ | ((with_reducible refine Below.setCell ?_ ?_ _); rotate_left; focus (first | (simp; done) | (simp; omega) | omega)) | ((with_reducible refine Below.alloc ?_ ?_ _); rotate_left; focus (first | (simp; done) | (simp; omega) | omega)) | (with_reducible refine Below.drew ?_))⟩
set_option maxRecDepth 100000 in
set_option maxHeartbeats 1000000 in
theorem dec_last (v : Value) (l : List UInt8) (w : World) (h : BytesAt w v l) (hl : l.length ≤ 100000) :
    Calls Tryd.prog 12 #[v, .int .i64 (l.length : Int)] w fun e w' => e = .returned (decV (decI l l.length)) ∧ Below w.heap.size w w' := by
  rw [dec_end]
  obtain ⟨a, cap, rfl, -⟩ := h
  go_enter Tryd.func12, Tryd.ntmps12
  go_wp2_with fail
  all_goals exact bodyPost_ret (v := decV (⟨0, 0, 0⟩, 0, 4)) (by simp [results, Tryd.results12, go_sem, decV, insV]) rfl ⟨rfl, by repeat (first | with_reducible exact Below.refl _ _ | ((with_reducible refine Below.setCell ?_ ?_ _); rotate_left; focus (first | (simp; done) | (simp; omega) | omega)) | ((with_reducible refine Below.alloc ?_ ?_ _); rotate_left; focus (first | (simp; done) | (simp; omega) | omega)) | (with_reducible refine Below.drew ?_))⟩
set_option maxRecDepth 100000 in
set_option maxHeartbeats 1000000 in
theorem dec_none (v : Value) (l : List UInt8) (k : Nat) (w : World) (h : BytesAt w v l) (hl : l.length ≤ 100000) (hk : k < l.length) (hc : 20 ≤ (l.getD k 0).toNat) :
    Calls Tryd.prog 12 #[v, .int .i64 (k : Int)] w fun e w' => e = .returned (decV (decI l k)) ∧ Below w.heap.size w w' := by
  rw [dec_form hk hc]
  obtain ⟨b, o, cap, rfl, h1, hcs⟩ := h.shape (by rintro rfl; simp at hk)
  have hcell : w.cell? ⟨b, o + k, none⟩ = some (.int .u8 ((l.getD k 0).toNat : Int)) := by
    rw [hcs k hk]; simp [Lib.byteCells, List.getElem?_eq_getElem hk]
  have hlt := lt_of_cell hcell
  clear hcs
  generalize (l.getD k 0).toNat = c at *
  generalize l.length = n at *
  have hx : ¬ (k : Int) = n := by omega
  have he : ((k : Int) == (n : Int)) = false := by simp; omega
  go_enter Tryd.func12, Tryd.ntmps12
  go_wp2_with fail
  all_goals exact bodyPost_ret (v := decV (⟨0, 0, 0⟩, 0, 3)) (by simp [results, Tryd.results12, go_sem, decV, insV]) rfl ⟨rfl, by repeat (first | with_reducible exact Below.refl _ _ | ((with_reducible refine Below.setCell ?_ ?_ _); rotate_left; focus (first | (simp; done) | (simp; omega) | omega)) | ((with_reducible refine Below.alloc ?_ ?_ _); rotate_left; focus (first | (simp; done) | (simp; omega) | omega)) | (with_reducible refine Below.drew ?_))⟩
def fmV (f : Fm) : Value := .agg (fmC f).toArray
set_option maxRecDepth 100000 in
set_option maxHeartbeats 2000000 in
theorem dec_some (v : Value) (l : List UInt8) (k : Nat) (w : World) (h : BytesAt w v l) (hl : l.length ≤ 100000) (hk : k < l.length) (hc : (l.getD k 0).toNat < 20) :
    Calls Tryd.prog 12 #[v, .int .i64 (k : Int)] w fun e w' => e = .returned (decV (decI l k)) ∧ Below w.heap.size w w' := by
  have H := Lib.hid h
  obtain ⟨b, o, cap, rfl, h1, hcs⟩ := h.shape (by rintro rfl; simp at hk)
  have hcell : w.cell? ⟨b, o + k, none⟩ = some (.int .u8 ((l.getD k 0).toNat : Int)) := by
    rw [hcs k hk]; simp [Lib.byteCells, List.getElem?_eq_getElem hk]
  have hlt := lt_of_cell hcell
  have HD := Lib.hid (@dec_yes l k hk hc)
  have HS := Lib.hid (@dec_short l k hk hc)
  have hidx := forms_at _ hc
  obtain ⟨f1, f2, f3⟩ := fm_all ((l.getD k 0).toNat : Int)
  clear hcs h
  generalize hcc : (l.getD k 0).toNat = c at *
  generalize hff : fmOf (c : Int) = f at *
  obtain ⟨fn, fa, fs, fb⟩ := f
  simp only at f1 f2 f3 HD HS
  have hfmC : (fmC ⟨fn, fa, fs, fb⟩).toArray = #[.string ⟨fn.toArray⟩, .int .i64 (fa : Int), .bool fs, .int .i64 (fb : Int)] := rfl
  rw [hfmC] at hidx
  clear hcc hff hfmC
  have hge : decide ((20 : Int) ≤ (c : Int)) = false := by simp; omega
  generalize hn : l.length = n at *
  have he : ((k : Int) == (n : Int)) = false := by simp; omega
  have hd : decide (n < k) = false := by simp; omega
  go_enter Tryd.func12, Tryd.ntmps12
  go_upto_region 7 with fail
  have g0 : Below w.heap.size w (w.alloc (.cells #[.int .i64 0, .int .i64 0, .int .i64 0] 27)) := (Below.refl _ _).alloc (Nat.le_refl _) _
  have q0 : (w.alloc (.cells #[.int .i64 0, .int .i64 0, .int .i64 0] 27)).heap[w.heap.size]? = some (.cells #[.int .i64 0, .int .i64 0, .int .i64 0] 27 (0, 0)) := heap_alloc_new w _
  have s0 : w.heap.size < (w.alloc (.cells #[.int .i64 0, .int .i64 0, .int .i64 0] 27)).heap.size := by simp
  generalize w.alloc (.cells #[.int .i64 0, .int .i64 0, .int .i64 0] 27) = w0 at *
  have y0 : w0.cell? ⟨b, o + k, none⟩ = some (.int .u8 (c : Int)) := (g0.cell (p := ⟨b, o + k, none⟩) hlt).trans hcell
  have hlt0 : b < w0.heap.size := by omega
  have G0 := Lib.hid g0; have Q0 := Lib.hid q0; have HC := Lib.hid hcell
  clear g0 q0 hcell
  have FX := Lib.hid (show ∀ W, Below w0.heap.size w0 W → W.cell? ⟨b, o + k, none⟩ = some (.int .u8 (c : Int)) from fun W h => (h.cell (p := ⟨b, o + k, none⟩) hlt0).trans y0)
  have FZ := Lib.hid (show ∀ w8 : World, w8.heap[w0.heap.size]? = some (.cells #[.string ⟨#[]⟩, .int .i64 0, .bool false, .int .i64 0] 58 (0, 0)) →
      w8.cell? ⟨w0.heap.size, 0, none⟩ = some (.string ⟨#[]⟩) ∧ w8.cell? ⟨w0.heap.size, 1, none⟩ = some (.int .i64 0) ∧ w8.cell? ⟨w0.heap.size, 2, none⟩ = some (.bool false) ∧ w8.cell? ⟨w0.heap.size, 3, none⟩ = some (.int .i64 0) ∧
      w8.frozen? ⟨w0.heap.size, 0, none⟩ = false ∧ w8.frozen? ⟨w0.heap.size, 1, none⟩ = false ∧ w8.frozen? ⟨w0.heap.size, 2, none⟩ = false ∧ w8.frozen? ⟨w0.heap.size, 3, none⟩ = false by
    intro w8 h
    refine ⟨?_, ?_, ?_, ?_, ?_, ?_, ?_, ?_⟩
    all_goals first
      | exact cell_of_row w8 _ _ _ _ _ h
      | (unfold World.frozen?; rw [h]; rfl))
  have RLb := Lib.hid (show Calls Tryd.prog 18 #[] w0.drew fun e w8 => e = .returned formsV ∧ Below w0.heap.size w0 w8 ∧ w8.cell? ⟨b, o + k, none⟩ = some (.int .u8 (c : Int)) from (forms_any _).mono fun e w8 h => by
    have hh : Below w0.heap.size w0 w8 := (Below.refl _ w0).drew.trans h.2
    exact ⟨h.1, hh, FX.out w8 hh⟩)
  have RLa := Lib.hid (show Calls Tryd.prog 18 #[] (w0.alloc (.cells #[.string ⟨#[]⟩, .int .i64 0, .bool false, .int .i64 0] 58)).drew fun e w8 => e = .returned formsV ∧ Below w0.heap.size w0 w8 ∧ w8.cell? ⟨b, o + k, none⟩ = some (.int .u8 (c : Int)) ∧ Hid (w8.heap[w0.heap.size]? = some (.cells #[.string ⟨#[]⟩, .int .i64 0, .bool false, .int .i64 0] 58 (0, 0))) ∧
      w8.cell? ⟨w0.heap.size, 0, none⟩ = some (.string ⟨#[]⟩) ∧ w8.cell? ⟨w0.heap.size, 1, none⟩ = some (.int .i64 0) ∧ w8.cell? ⟨w0.heap.size, 2, none⟩ = some (.bool false) ∧ w8.cell? ⟨w0.heap.size, 3, none⟩ = some (.int .i64 0) ∧
      w8.frozen? ⟨w0.heap.size, 0, none⟩ = false ∧ w8.frozen? ⟨w0.heap.size, 1, none⟩ = false ∧ w8.frozen? ⟨w0.heap.size, 2, none⟩ = false ∧ w8.frozen? ⟨w0.heap.size, 3, none⟩ = false from (forms_any _).mono fun e w8 h => by
    have hh : Below w0.heap.size w0 w8 := (((Below.refl _ w0).alloc (Nat.le_refl _) _).drew).trans (h.2.mono (by simp))
    have hq := (h.2.block w0.heap.size (by simp)).trans (heap_alloc_new w0 _)
    exact ⟨h.1, hh, FX.out w8 hh, Lib.hid hq, FZ.out w8 hq⟩)
  go_cut [7] from 30 to 35 (fun q wx => ∃ bf, q = .pointer (some ⟨bf, 0, none⟩) ∧ w0.heap.size ≤ bf ∧ Below w0.heap.size w0 wx ∧ wx.heap[bf]? = some (.cells #[.string ⟨fn.toArray⟩, .int .i64 (fa : Int), .bool fs, .int .i64 (fb : Int)] 58 (0, 0)))
  case first =>
    go_region_held3 (fun w' => w'.cell? ⟨b, o + k, none⟩ = some (.int .u8 (c : Int)))
      (first | (with_reducible exact z0) | (refine FX.out _ ?_; repeat (first | with_reducible exact Below.refl _ _ | ((with_reducible refine Below.setCell ?_ ?_ _); rotate_left; focus (first | (simp; done) | (simp; omega) | omega)) | ((with_reducible refine Below.alloc ?_ ?_ _); rotate_left; focus (first | (simp; done) | (simp; omega) | omega)) | (with_reducible refine Below.drew ?_) | ((with_reducible refine Below.trans ?_ (Below.mono hh8 ?_)); rotate_left; focus (first | (simp; done) | (simp; omega) | omega)))) | (refine FX.out _ ?_; repeat (first | with_reducible exact Below.refl _ _ | ((with_reducible refine Below.setCell ?_ ?_ _); rotate_left; focus (first | (simp; done) | (simp; omega) | omega)) | ((with_reducible refine Below.alloc ?_ ?_ _); rotate_left; focus (first | (simp; done) | (simp; omega) | omega)) | (with_reducible refine Below.drew ?_))))
      (first | (go_at_call 18; with_reducible (refine RLb.out.mono ?_); rintro e w8 ⟨rfl, hh8, z0⟩; have hs8 := hh8.size) | (go_at_call 18; with_reducible (refine RLa.out.mono ?_); rintro e w8 ⟨rfl, hh8, z0, HQ, p0, p1, p2, p3, e0, e1, e2, e3⟩; have hs8 := hh8.size))
    all_goals (go_wp2_with fail)
    all_goals go_meet
    · exact ⟨w8.heap.size, rfl, hs8, hh8.alloc hs8 _, heap_alloc_new w8 _⟩
    · exact ⟨w8.heap.size, rfl, hs8, hh8.alloc hs8 _, heap_alloc_new w8 _⟩
    · refine ⟨w0.heap.size, rfl, Nat.le_refl _, ?_, ?_⟩
      · repeat (first | with_reducible exact Below.refl _ _ | ((with_reducible refine Below.setCell ?_ ?_ _); rotate_left; focus (first | (simp; done) | (simp; omega) | omega)) | ((with_reducible refine Below.alloc ?_ ?_ _); rotate_left; focus (first | (simp; done) | (simp; omega) | omega)) | (with_reducible refine Below.drew ?_) | ((with_reducible refine Below.trans ?_ (Below.mono hh8 ?_)); rotate_left; focus (first | (simp; done) | (simp; omega) | omega)))
      · rw [heap_setCell_same _ _ _ _ _ _ (heap_setCell_same _ _ _ _ _ _ (heap_setCell_same _ _ _ _ _ _ (heap_setCell_same _ _ _ _ _ _ HQ.out)))]
        rfl
  case rest =>
    obtain ⟨bf, rfl, hbf, hg8, ho8⟩ := hcut
    obtain ⟨w8, hw8⟩ : ∃ w8, w8 = wc := ⟨_, rfl⟩
    rw [← hw8] at hg8 ho8 ⊢
    clear hw8
    clear RLa RLb FX FZ hidx y0
    have x1 := cell_of_row w8 _ 1 _ _ _ ho8
    have x2 := cell_of_row w8 _ 2 _ _ _ ho8
    have x3 := cell_of_row w8 _ 3 _ _ _ ho8
    simp at x1 x2 x3
    have hs8 := lt_of_cell x1
    have G8 := Lib.hid (G0.out.trans (hg8.mono (by omega)))
    have q8 := (hg8.block w.heap.size s0).trans Q0.out
    have r0 := cell_of_row w8 _ 0 _ _ _ q8
    have r1 := cell_of_row w8 _ 1 _ _ _ q8
    have r2 := cell_of_row w8 _ 2 _ _ _ q8
    simp at r0 r1 r2
    have z0 : w8.frozen? ⟨w.heap.size, 0, none⟩ = false := by unfold World.frozen?; rw [q8]; rfl
    have z1 : w8.frozen? ⟨w.heap.size, 1, none⟩ = false := by unfold World.frozen?; rw [q8]; rfl
    have z2 : w8.frozen? ⟨w.heap.size, 2, none⟩ = false := by unfold World.frozen?; rw [q8]; rfl
    have y8 : w8.cell? ⟨b, o + k, none⟩ = some (.int .u8 (c : Int)) := (G8.out.cell (p := ⟨b, o + k, none⟩) hlt).trans HC.out
    have Q8 := Lib.hid q8
    have HB8 := Lib.hid (H.out.later G8.out)
    clear q8 hg8 ho8 G0 Q0 HC
    by_cases hov : n < k + 1 + fa + fb
    · have ho' : decide ((n : Int) < (k : Int) + 1 + fa + fb) = true := by simp; omega
      go_wp2_with fail
      exact bodyPost_ret (v := decV (⟨0, 0, 0⟩, 0, 4)) (by simp [results, Tryd.results12, go_sem, decV, insV, r0, r1, r2]) rfl ⟨by rw [HS.out hov], by repeat (first | with_reducible exact Below.refl _ _ | ((with_reducible refine Below.setCell ?_ ?_ _); rotate_left; focus (first | (simp; done) | (simp; omega) | omega)) | ((with_reducible refine Below.alloc ?_ ?_ _); rotate_left; focus (first | (simp; done) | (simp; omega) | omega)) | (with_reducible refine Below.drew ?_) | ((with_reducible refine Below.trans ?_ (Below.mono G8.out ?_)); rotate_left; focus (first | (simp; done) | (simp; omega) | omega)))⟩
    · have ho' : decide ((n : Int) < (k : Int) + 1 + fa + fb) = false := by simp; omega
      obtain ⟨v1, hv1, hsl1⟩ := HB8.out.part (k + 1) fa (by omega)
      obtain ⟨v2, hv2, hsl2⟩ := HB8.out.part (k + 1 + fa) fb (by omega)
      have e1 : ∀ W, (Instr.slice 29 (.slice (some ⟨b, o, none⟩) n cap) (some (.int .i64 ((k : Int) + 1))) (some (.int .i64 ((k : Int) + 1 + fa))) none).run Tryd.prog W = .ok v1 W := by exact_mod_cast hsl1
      have e2 : ∀ W, (Instr.slice 29 (.slice (some ⟨b, o, none⟩) n cap) (some (.int .i64 ((k : Int) + 1 + fa))) (some (.int .i64 ((k : Int) + 1 + fa + fb))) none).run Tryd.prog W = .ok v2 W := by exact_mod_cast hsl2
      have l1 : ((l.drop (k + 1)).take fa).length = fa := by rw [List.length_take, List.length_drop]; omega
      have l2 : ((l.drop (k + 1 + fa)).take fb).length = fb := by rw [List.length_take, List.length_drop]; omega
      have C1 := Lib.hid (show ∀ W, Below w8.heap.size w8 W → Calls Tryd.prog 22 #[v1, .bool fs] W fun e w' => e = .returned (.int .i64 (getZ ((l.drop (k + 1)).take fa) fs)) ∧ w' = W from fun W hW => cget_any v1 _ fs W (hv1.later hW) (by omega) (fun h => f3 (by rw [h] at l1; exact l1.symm)))
      have C2 := Lib.hid (show ∀ W, Below w8.heap.size w8 W → Calls Tryd.prog 22 #[v2, .bool false] W fun e w' => e = .returned (.int .i64 (getZ ((l.drop (k + 1 + fa)).take fb) false)) ∧ w' = W from fun W hW => cget_any v2 _ false W (hv2.later hW) (by omega) (fun h => rfl))
      have hl1 := Lib.hid l1; have hl2 := Lib.hid l2
      clear hsl1 hsl2 hv1 hv2 l1 l2
      have HD' := Lib.hid (HD.out hov)
      clear HD HS
      generalize getZ ((l.drop (k + 1)).take fa) fs = za at *
      generalize getZ ((l.drop (k + 1 + fa)).take fb) false = zb at *
      go_wp2_with fail
      have wk : IntKind.i64.wrap ((k : Int) + 1) = (k : Int) + 1 := IntWalk.i64_in _ (by omega)
      have wc : IntKind.i64.wrap (c : Int) = (c : Int) := IntWalk.i64_in _ (by omega)
      have ne1 : b ≠ w.heap.size := by omega
      have ne2 : bf ≠ w.heap.size := by omega
      have ne3 : w.heap.size ≠ b := by omega
      have ne4 : w.heap.size ≠ bf := by omega
      go_region_held3 (fun w' => w'.cell? ⟨b, o + k, none⟩ = some (.int .u8 (c : Int)) ∧ w'.cell? ⟨bf, 2, none⟩ = some (.bool fs))
        (first | exact ⟨y8, x2⟩ | go_keep)
        (first | (go_at_call 22; with_reducible (refine (C1.out _ (by first | with_reducible exact Below.refl _ _ | with_reducible exact (Below.refl _ _).drew)).mono ?_); rintro e w9 ⟨rfl, rfl⟩) | (go_at_call 22; with_reducible (refine (C2.out _ (by first | with_reducible exact Below.refl _ _ | with_reducible exact (Below.refl _ _).drew)).mono ?_); rintro e w9 ⟨rfl, rfl⟩))
      all_goals (clear wk)
      all_goals (go_wp2_with fail)
      refine bodyPost_ret (v := decV (⟨c, za, zb⟩, (k : Int) + 1 + fa + fb, 0)) (by simp [results, Tryd.results12, go_sem, decV, insV, r0, r1, r2]) rfl ⟨by rw [HD'.out], ?_⟩
      repeat (first | with_reducible exact Below.refl _ _ | ((with_reducible refine Below.setCell ?_ ?_ _); rotate_left; focus (first | (simp; done) | (simp; omega) | omega)) | ((with_reducible refine Below.alloc ?_ ?_ _); rotate_left; focus (first | (simp; done) | (simp; omega) | omega)) | (with_reducible refine Below.drew ?_) | ((with_reducible refine Below.trans ?_ (Below.mono G8.out ?_)); rotate_left; focus (first | (simp; done) | (simp; omega) | omega)))
theorem dec_any (v : Value) (l : List UInt8) (p : Int) (w : World) (h : BytesAt w v l) (hl : l.length ≤ 100000) :
    Calls Tryd.prog 12 #[v, .int .i64 p] w fun e w' => e = .returned (decV (decI l p)) ∧ Below w.heap.size w w' := by
  by_cases h1 : p < 0 ∨ (l.length : Int) < p
  · exact dec_bad v l p w h hl h1
  · by_cases h2 : p = l.length
    · subst h2; exact dec_last v l w h hl
    · obtain ⟨k, rfl⟩ := Int.eq_ofNat_of_zero_le (show 0 ≤ p by omega)
      by_cases h3 : 20 ≤ (l.getD k 0).toNat
      · exact dec_none v l k w h hl (by omega) h3
      · exact dec_some v l k w h hl (by omega) (by omega)
end Go.Proofs.YtnajgpefmknmpaaDoor
