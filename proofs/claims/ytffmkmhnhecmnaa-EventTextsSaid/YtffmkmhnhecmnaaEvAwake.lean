/- The law's fixed fact. -/
import Derived.Test.YtffmkmhnhecmnaaTold
import Derived.Lib.SlBytesConst
namespace Go.Proofs.Ytffmkmhnhecmnaa
open Go.RowKit
def evA : List Ev := [⟨1, [104, 105, 10], []⟩, ⟨3, [], []⟩]
theorem bytes_none (w : World) : BytesAt w (.slice none 0 0) [] := ⟨none, 0, rfl, Nat.le_refl _, by unfold maxLen; omega, Or.inl rfl, fun _ => rfl⟩
def laidA (w : World) : World := ((w.alloc (Obj.cells #[Value.int IntKind.u8 104, Value.int IntKind.u8 105, Value.int IntKind.u8 10] 5 (3, 4))).alloc
         (Obj.cells
           #[Value.int IntKind.i64 1, Value.slice (some { block := w.heap.size, off := 0 }) 3 3,
             Value.string { data := #[] }, Value.int IntKind.i64 3, Value.slice none 0 0, Value.string { data := #[] }]
           45))
theorem cellO {w : World} {g : Nat} {cs : Array Value} {t : TypeId} {fr : Nat × Nat} (h : w.heap[g]? = some (.cells cs t fr)) (i : Nat) : w.cell? ⟨g, i, none⟩ = cs[i]? := by simp [World.cell?, h]
theorem heapA0 (w : World) : (laidA w).heap[w.heap.size]? = some (Obj.cells #[Value.int IntKind.u8 104, Value.int IntKind.u8 105, Value.int IntKind.u8 10] 5 (3, 4)) := by
  show ((w.heap.push _).push _)[w.heap.size]? = _
  simp [Array.getElem?_push]
theorem heapA1 (w : World) : (laidA w).heap[w.heap.size + 1]? = some (Obj.cells
           #[Value.int IntKind.i64 1, Value.slice (some { block := w.heap.size, off := 0 }) 3 3,
             Value.string { data := #[] }, Value.int IntKind.i64 3, Value.slice none 0 0, Value.string { data := #[] }]
           45) := by
  show ((w.heap.push _).push _)[w.heap.size + 1]? = _
  rw [Array.getElem?_push, if_pos (by simp)]
theorem bytesA (w : World) : BytesAt (laidA w) (.slice (some ⟨w.heap.size, 0, none⟩) 3 3) [104, 105, 10] := by
  refine ⟨_, 3, rfl, Nat.le_refl _, by unfold maxLen; omega, Or.inr ⟨w.heap.size, 0, rfl, fun j hj => ?_⟩, fun h => by cases h⟩
  match j, hj with
  | 0, _ => rw [cellO (heapA0 w)]; rfl
  | 1, _ => rw [cellO (heapA0 w)]; rfl
  | 2, _ => rw [cellO (heapA0 w)]; rfl
def cellsA (w : World) : List Value := [Value.int IntKind.i64 1, Value.slice (some { block := w.heap.size, off := 0 }) 3 3,
             Value.string { data := #[] }, Value.int IntKind.i64 3, Value.slice none 0 0, Value.string { data := #[] }]
theorem rowA (w : World) : RowAt (laidA w) (some ⟨w.heap.size + 1, 0, none⟩) (cellsA w) := by
  refine Or.inr ⟨w.heap.size + 1, 0, rfl, fun j hj => ?_⟩
  match j, hj with
  | 0, _ => rw [cellO (heapA1 w)]; rfl
  | 1, _ => rw [cellO (heapA1 w)]; rfl
  | 2, _ => rw [cellO (heapA1 w)]; rfl
  | 3, _ => rw [cellO (heapA1 w)]; rfl
  | 4, _ => rw [cellO (heapA1 w)]; rfl
  | 5, _ => rw [cellO (heapA1 w)]; rfl
theorem evsA1 (w : World) : EvCells (laidA w) ((cellsA w).take 3) (evA.take 1) := EvCells.one (nm := ⟨#[]⟩) (e := ⟨1, [104, 105, 10], []⟩) rfl (bytesA w)
theorem evsA2 (w : World) : EvCells (laidA w) (cellsA w) evA := (evsA1 w).append (EvCells.one (nm := ⟨#[]⟩) (e := ⟨3, [], []⟩) rfl (bytes_none _))
theorem rowA1 (w : World) : RowAt (laidA w) (some ⟨w.heap.size + 1, 0, none⟩) ((cellsA w).take 3) := by
  rcases rowA w with h | ⟨b, o, hb, h⟩
  · cases h
  · refine Or.inr ⟨b, o, hb, fun j hj => ?_⟩
    have hj3 : j < 3 := by simpa [cellsA] using hj
    rw [h j (by simp [cellsA]; omega), List.getElem?_take, if_pos hj3]
theorem evsA (w : World) : EvsAt (laidA w) (.slice (some ⟨w.heap.size + 1, 0, none⟩) 2 2) evA := ⟨_, 2, cellsA w, rfl, Nat.le_refl _, by unfold maxLen; omega, rowA w, evsA2 w, fun h => by cases h⟩
theorem evsB (w : World) : EvsAt (laidA w) (.slice (some ⟨w.heap.size + 1, 0, none⟩) 1 2) (evA.take 1) := ⟨_, 2, (cellsA w).take 3, rfl, by decide, by unfold maxLen; omega, rowA1 w, evsA1 w, fun h => by cases h⟩
theorem smallA : smallEvs evA := by intro e he; simp [evA] at he; rcases he with rfl | rfl <;> simp
theorem belowA (w : World) : Below w.heap.size w (laidA w) := by
  unfold laidA
  repeat (first | with_reducible exact Below.refl _ _ | ((with_reducible refine Below.setCell ?_ ?_ _); rotate_left; focus (first | (simp; done) | (simp; omega) | omega)) | ((with_reducible refine Below.alloc ?_ ?_ _); rotate_left; focus (first | (simp; done) | (simp; omega) | omega)) | (with_reducible refine Below.drew ?_))
set_option maxRecDepth 100000 in
theorem awake25 (w : World) : Calls Try.prog 6 #[] w fun e w' => e = .returned (.bool true) ∧ Below w.heap.size w w' := by
  have kc := fun (w : World) (C : Array Value) (n c : Nat) => Lib.run_convert_bytes_const (P := Try.prog) w 33 5 C n c Try.underlying33 Try.underlying5
  have T := Lib.hid (text_any _ evA _ (evsA w) smallA (by decide))
  have C := Lib.hid (fun W (hW : Below (laidA w).heap.size (laidA w) W) => common_any _ _ evA (evA.take 1) W ((evsA w).later hW) ((evsB w).later hW) smallA (smallA.take 1))
  have B := Lib.hid (belowA w)
  have hl : Hid ((textL evA) = [111, 117, 116, 32, 34, 104, 105, 92, 48, 97, 34, 10, 115, 97, 118, 101, 100, 10]) := Lib.hid (by kernel_rfl)
  have hc : Hid (commonL evA (evA.take 1) = 1) := Lib.hid (by kernel_rfl)
  rw [hl.out] at T
  rw [hc.out] at C
  go_enter Try.func6, Try.ntmps6
  go_wp2_with fail
  refine T.out.mono ?_
  rintro e w1 ⟨rfl, hg⟩
  have HG := Lib.hid hg; clear hg
  go_wp2_with fail
  refine (C.out _ HG.out).mono ?_
  rintro e w2 ⟨rfl, hg⟩
  have HG2 := Lib.hid (B.out.trans ((HG.out.trans (hg.mono HG.out.size)).mono B.out.size)); clear hg
  go_wp2_with fail
  go_ret
  exact ⟨rfl, HG2.out⟩
end Go.Proofs.Ytffmkmhnhecmnaa
