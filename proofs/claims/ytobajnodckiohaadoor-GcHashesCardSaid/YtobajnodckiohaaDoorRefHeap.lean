/- Words in memory. The document's heap in memory: a list of objects. -/
import Derived.Test.YtobajnodckiohaaDoorCopy
namespace Go.Proofs.YtobajnodckiohaaDoor
open Go.RowKit
set_option linter.unusedVariables false
def wordVals (l : List Nat) : List Value := l.map fun (x : Nat) => Value.int .u64 (Int.ofNat x)
def SmallW (l : List Nat) : Prop := ∀ x, x ∈ l → x < 18446744073709551616
/-- a slice that reads as these words -/
def WordsAt (w : World) (v : Value) (l : List Nat) : Prop := ∃ a cap, v = .slice a l.length cap ∧ l.length ≤ cap ∧ cap ≤ maxLen ∧ RowAt w a (wordVals l) ∧ (a = none → cap = 0)
theorem wordVals_length (l : List Nat) : (wordVals l).length = l.length := by simp [wordVals]
theorem WordsAt.later {w w' : World} {v : Value} {l : List Nat} (h : WordsAt w v l) (hb : Below w.heap.size w w') : WordsAt w' v l := by
  obtain ⟨a, cap, hv, h1, h2, h3, h4⟩ := h
  exact ⟨a, cap, hv, h1, h2, h3.later hb, h4⟩
theorem words_none (w : World) : WordsAt w (.slice none 0 0) [] := ⟨none, 0, rfl, Nat.le_refl _, by unfold maxLen; omega, Or.inl rfl, fun _ => rfl⟩
theorem words_of_owns {w : World} {B e n : Nat} {v : Value} {l : List Nat} (h : w.ownsRow B e 1 v n (wordVals l)) : WordsAt w v l := by
  obtain ⟨a, cap, hv, h1, h2, h3, h5⟩ := row_of_owns_any h
  have hn : n = l.length := by have := h.1; rw [wordVals_length] at this; omega
  subst hn
  exact ⟨a, cap, hv, h1, h2, h3, h5⟩
theorem WordsAt.get {w : World} {v : Value} {l : List Nat} (h : WordsAt w v l) : ∃ a cap, v = .slice a l.length cap ∧ l.length ≤ cap ∧ cap ≤ maxLen ∧
    ∀ i (hi : i < l.length), ∃ b o, a = some ⟨b, o, none⟩ ∧ b < w.heap.size ∧ w.cell? ⟨b, o + i, none⟩ = some (.int .u64 (l[i] : Int)) := by
  obtain ⟨a, cap, hv, h1, h2, h3, h4⟩ := h
  refine ⟨a, cap, hv, h1, h2, fun i hi => ?_⟩
  rcases h3 with h3 | ⟨b, o, ha, hc⟩
  · have := wordVals_length l; rw [h3] at this; simp at this; omega
  · have hcc := hc i (by rw [wordVals_length]; exact hi)
    have e : (wordVals l)[i]? = some (.int .u64 (l[i] : Int)) := by simp [wordVals, hi]
    rw [e] at hcc
    exact ⟨b, o, ha, lt_of_cell hcc, hcc⟩
end Go.Proofs.YtobajnodckiohaaDoor
namespace Go.Proofs.YtobajnodckiohaaDoor
open Go.RowKit
set_option linter.unusedVariables false
/-- an object: its place, its class, its kind, its words, its bytes (its size is three) -/
structure RO where
  at_ : Nat
  cls : Nat
  kind : Int
  words : List Nat
  bytes : List UInt8
/-- its block lies from C on -/
def Up (C : Nat) (v : Value) : Prop := ∀ b o n c, v = .slice (some ⟨b, o, none⟩) n c → C ≤ b
theorem up_none (C n c : Nat) : Up C (.slice none n c) := fun b o n c h => by simp at h
theorem up_some {C b o n c : Nat} (h : C ≤ b) : Up C (.slice (some ⟨b, o, none⟩) n c) := fun b' o' n' c' e => by simp at e; omega
theorem up_owns {w : World} {B C e size n : Nat} {v : Value} {xs : List Value} (h : w.ownsRow B e size v n xs) (hB : C ≤ B) : Up C v := by
  rcases h.2 with ⟨hv, -⟩ | ⟨g, cap, cur, hv, hb, -⟩
  · rw [hv]; exact up_none C 0 0
  · rw [hv]; exact up_some (Nat.le_trans hB hb)
theorem RowAt.stays {C n c : Nat} {w w' : World} {a : Option Addr} {xs : List Value} (h : RowAt w a xs) (hu : Up C (.slice a n c)) (ho : ∀ q, C ≤ q → q < w.heap.size → w'.heap[q]? = w.heap[q]?) : RowAt w' a xs := by
  rcases h with h | ⟨b, o, ha, hc⟩
  · exact Or.inl h
  · subst ha
    refine Or.inr ⟨b, o, rfl, fun j hj => ?_⟩
    have hj' := hc j hj
    have hlt := lt_of_cell (hj'.trans (List.getElem?_eq_getElem hj))
    rw [← hj']
    exact World.cell?_of_block (ho b (hu b o n c rfl) hlt)
theorem WordsAt.stays {C : Nat} {w w' : World} {v : Value} {l : List Nat} (h : WordsAt w v l) (hu : Up C v) (ho : ∀ q, C ≤ q → q < w.heap.size → w'.heap[q]? = w.heap[q]?) : WordsAt w' v l := by
  obtain ⟨a, cap, rfl, h1, h2, h3, h4⟩ := h
  exact ⟨a, cap, rfl, h1, h2, h3.stays hu ho, h4⟩
theorem BytesAt.stays {C : Nat} {w w' : World} {v : Value} {l : List UInt8} (h : BytesAt w v l) (hu : Up C v) (ho : ∀ q, C ≤ q → q < w.heap.size → w'.heap[q]? = w.heap[q]?) : BytesAt w' v l := by
  obtain ⟨a, cap, rfl, h1, h2, h3, h4⟩ := h
  exact ⟨a, cap, rfl, h1, h2, h3.stays hu ho, h4⟩
/-- these cells are those of these objects -/
def RCells (C : Nat) (w : World) (xs : List Value) (os : List RO) : Prop :=
  xs.length = os.length * 8 ∧ ∀ i o, os[i]? = some o → ∃ wv bv, xs[i * 8]? = some (.int .i64 (o.at_ : Int)) ∧ xs[i * 8 + 1]? = some (.int .u64 (o.cls : Int)) ∧ xs[i * 8 + 2]? = some (.int .i64 o.kind) ∧ xs[i * 8 + 3]? = some (.int .i64 3) ∧
    xs[i * 8 + 4]? = some (.int .u32 0) ∧ xs[i * 8 + 5]? = some (.bool false) ∧ xs[i * 8 + 6]? = some wv ∧ xs[i * 8 + 7]? = some bv ∧ WordsAt w wv o.words ∧ BytesAt w bv o.bytes ∧ Up C wv ∧ Up C bv
theorem RCells.nil (C : Nat) (w : World) : RCells C w [] [] := ⟨rfl, fun i o h => by simp at h⟩
theorem RCells.later {C : Nat} {w w' : World} {xs : List Value} {os : List RO} (h : RCells C w xs os) (hb : Below w.heap.size w w') : RCells C w' xs os :=
  ⟨h.1, fun i o ho => let ⟨wv, bv, a, b, c, d, e, f, g, k, l, m, n⟩ := h.2 i o ho; ⟨wv, bv, a, b, c, d, e, f, g, k, l.later hb, m.later hb, n⟩⟩
theorem RCells.stays {C : Nat} {w w' : World} {xs : List Value} {os : List RO} (h : RCells C w xs os) (hb : ∀ q, C ≤ q → q < w.heap.size → w'.heap[q]? = w.heap[q]?) : RCells C w' xs os :=
  ⟨h.1, fun i o ho => let ⟨wv, bv, a, b, c, d, e, f, g, k, l, m, n⟩ := h.2 i o ho; ⟨wv, bv, a, b, c, d, e, f, g, k, l.stays n.1 hb, m.stays n.2 hb, n⟩⟩
theorem RCells.append {C : Nat} {w : World} {xs ys : List Value} {os ps : List RO} (h : RCells C w xs os) (k : RCells C w ys ps) : RCells C w (xs ++ ys) (os ++ ps) := by
  have hl := h.1
  refine ⟨by rw [List.length_append, List.length_append, h.1, k.1]; omega, fun i o ho => ?_⟩
  by_cases hi : i < os.length
  · rw [List.getElem?_append_left hi] at ho
    obtain ⟨wv, bv, h0, h1, h2, h3, h4, h5, h6, h7, h8, h9⟩ := h.2 i o ho
    refine ⟨wv, bv, ?_, ?_, ?_, ?_, ?_, ?_, ?_, ?_, h8, h9⟩ <;> (rw [List.getElem?_append_left (by omega)]; assumption)
  · rw [List.getElem?_append_right (by omega)] at ho
    obtain ⟨wv, bv, h0, h1, h2, h3, h4, h5, h6, h7, h8, h9⟩ := k.2 _ o ho
    refine ⟨wv, bv, ?_, ?_, ?_, ?_, ?_, ?_, ?_, ?_, h8, h9⟩
    · rw [List.getElem?_append_right (by omega), ← h0]; congr 1; omega
    · rw [List.getElem?_append_right (by omega), ← h1]; congr 1; omega
    · rw [List.getElem?_append_right (by omega), ← h2]; congr 1; omega
    · rw [List.getElem?_append_right (by omega), ← h3]; congr 1; omega
    · rw [List.getElem?_append_right (by omega), ← h4]; congr 1; omega
    · rw [List.getElem?_append_right (by omega), ← h5]; congr 1; omega
    · rw [List.getElem?_append_right (by omega), ← h6]; congr 1; omega
    · rw [List.getElem?_append_right (by omega), ← h7]; congr 1; omega
theorem RCells.one {C : Nat} {w : World} {wv bv : Value} {o : RO} (hw : WordsAt w wv o.words) (hb : BytesAt w bv o.bytes) (hu : Up C wv ∧ Up C bv) : RCells C w [.int .i64 (o.at_ : Int), .int .u64 (o.cls : Int), .int .i64 o.kind, .int .i64 3, .int .u32 0, .bool false, wv, bv] [o] := by
  refine ⟨rfl, fun i o' ho => ?_⟩
  match i, ho with
  | 0, ho => simp at ho; subst ho; exact ⟨wv, bv, rfl, rfl, rfl, rfl, rfl, rfl, rfl, rfl, hw, hb, hu⟩
theorem RCells.ones {C : Nat} {w : World} {xs : List Value} {os : List RO} (h : RCells C w xs os) : ∀ u ∈ xs, u.oneCell' = true := by
  intro u hu
  obtain ⟨j, hj, rfl⟩ := List.getElem_of_mem hu
  have hl := h.1
  have hi : j / 8 < os.length := by omega
  obtain ⟨wv, bv, h0, h1, h2, h3, h4, h5, h6, h7, h8, h9⟩ := h.2 (j / 8) os[j / 8] (List.getElem?_eq_getElem hi)
  have hj' := List.getElem?_eq_getElem hj
  have hr : j = j / 8 * 8 ∨ j = j / 8 * 8 + 1 ∨ j = j / 8 * 8 + 2 ∨ j = j / 8 * 8 + 3 ∨ j = j / 8 * 8 + 4 ∨ j = j / 8 * 8 + 5 ∨ j = j / 8 * 8 + 6 ∨ j = j / 8 * 8 + 7 := by omega
  rcases hr with hr | hr | hr | hr | hr | hr | hr | hr
  · rw [← hr, hj'] at h0; injection h0 with h0; rw [h0]; rfl
  · rw [← hr, hj'] at h1; injection h1 with h1; rw [h1]; rfl
  · rw [← hr, hj'] at h2; injection h2 with h2; rw [h2]; rfl
  · rw [← hr, hj'] at h3; injection h3 with h3; rw [h3]; rfl
  · rw [← hr, hj'] at h4; injection h4 with h4; rw [h4]; rfl
  · rw [← hr, hj'] at h5; injection h5 with h5; rw [h5]; rfl
  · rw [← hr, hj'] at h6; injection h6 with h6; rw [h6]; obtain ⟨a, c, rfl, -⟩ := h8; rfl
  · rw [← hr, hj'] at h7; injection h7 with h7; rw [h7]; obtain ⟨a, c, rfl, -⟩ := h9.1; rfl
/-- a slice that reads as these objects -/
def RObjs (C : Nat) (w : World) (v : Value) (os : List RO) : Prop := ∃ a cap xs, v = .slice a os.length cap ∧ os.length ≤ cap ∧ cap ≤ maxLen ∧ RowAt w a xs ∧ RCells C w xs os ∧ (a = none → cap = 0) ∧ Up C (.slice a os.length cap)
theorem RObjs.later {C : Nat} {w w' : World} {v : Value} {os : List RO} (h : RObjs C w v os) (hb : Below w.heap.size w w') : RObjs C w' v os := by
  obtain ⟨a, cap, xs, hv, h1, h2, h3, h4, h5⟩ := h
  exact ⟨a, cap, xs, hv, h1, h2, h3.later hb, h4.later hb, h5⟩
theorem RObjs.stays {C : Nat} {w w' : World} {v : Value} {os : List RO} (h : RObjs C w v os) (hb : ∀ q, C ≤ q → q < w.heap.size → w'.heap[q]? = w.heap[q]?) : RObjs C w' v os := by
  obtain ⟨a, cap, xs, hv, h1, h2, h3, h4, h5, h6⟩ := h
  exact ⟨a, cap, xs, hv, h1, h2, h3.stays h6 hb, h4.stays hb, h5, h6⟩
theorem robjs_none (C : Nat) (w : World) : RObjs C w (.slice none 0 0) [] := ⟨none, 0, [], rfl, Nat.le_refl _, by unfold maxLen; omega, Or.inl rfl, RCells.nil C w, fun _ => rfl, up_none C 0 0⟩
theorem robjs_of_owns {w : World} {B C e n : Nat} {v : Value} {xs : List Value} {os : List RO} (h : w.ownsRow B e 8 v n xs) (hB : C ≤ B) (hc : RCells C w xs os) : RObjs C w v os := by
  have hu := up_owns h hB
  have hl := h.1
  obtain ⟨a, cap, hv, h1, h2, h3, h5⟩ := row_of_owns_any h
  have hn : n = os.length := by have := hc.1; omega
  subst hn
  subst hv
  exact ⟨a, cap, xs, rfl, h1, h2, h3, hc, h5, hu⟩
/-- what a walk reads of one object -/
theorem RObjs.get {C : Nat} {w : World} {v : Value} {os : List RO} (h : RObjs C w v os) : ∃ a cap, v = .slice a os.length cap ∧ os.length ≤ cap ∧ cap ≤ maxLen ∧
    ∀ i o, os[i]? = some o → ∃ b q wv bv, a = some ⟨b, q, none⟩ ∧ b < w.heap.size ∧ w.cell? ⟨b, q + i * 8, none⟩ = some (.int .i64 (o.at_ : Int)) ∧ w.cell? ⟨b, q + i * 8 + 1, none⟩ = some (.int .u64 (o.cls : Int)) ∧ w.cell? ⟨b, q + i * 8 + 2, none⟩ = some (.int .i64 o.kind) ∧ w.cell? ⟨b, q + i * 8 + 3, none⟩ = some (.int .i64 3) ∧
      w.cell? ⟨b, q + i * 8 + 4, none⟩ = some (.int .u32 0) ∧ w.cell? ⟨b, q + i * 8 + 5, none⟩ = some (.bool false) ∧ w.cell? ⟨b, q + i * 8 + 6, none⟩ = some wv ∧ w.cell? ⟨b, q + i * 8 + 7, none⟩ = some bv ∧ WordsAt w wv o.words ∧ BytesAt w bv o.bytes ∧ Up C wv ∧ Up C bv := by
  obtain ⟨a, cap, xs, hv, h1, h2, h3, h4, h5, -⟩ := h
  refine ⟨a, cap, hv, h1, h2, fun i o ho => ?_⟩
  obtain ⟨wv, bv, c0, c1, c2, c3, c4, c5, c6, c7, c8, c9⟩ := h4.2 i o ho
  have hi : i < os.length := (List.getElem?_eq_some_iff.1 ho).1
  have hl := h4.1
  rcases h3 with h3 | ⟨b, q, ha, hc⟩
  · rw [h3] at hl; simp at hl; omega
  · have e0 := (hc (i * 8) (by omega)).trans c0
    refine ⟨b, q, wv, bv, ha, lt_of_cell e0, e0, ?_, ?_, ?_, ?_, ?_, ?_, ?_, c8, c9⟩
    · rw [Nat.add_assoc]; exact (hc (i * 8 + 1) (by omega)).trans c1
    · rw [Nat.add_assoc]; exact (hc (i * 8 + 2) (by omega)).trans c2
    · rw [Nat.add_assoc]; exact (hc (i * 8 + 3) (by omega)).trans c3
    · rw [Nat.add_assoc]; exact (hc (i * 8 + 4) (by omega)).trans c4
    · rw [Nat.add_assoc]; exact (hc (i * 8 + 5) (by omega)).trans c5
    · rw [Nat.add_assoc]; exact (hc (i * 8 + 6) (by omega)).trans c6
    · rw [Nat.add_assoc]; exact (hc (i * 8 + 7) (by omega)).trans c7
end Go.Proofs.YtobajnodckiohaaDoor
