/- Rows in memory: what a slice reads as, and that it reads on where nothing old is written. -/
import Derived.Test.YtibopjjicfiimaaGreatDoorRows
import Derived.WalkKit
import Derived.WalkSpells
import Derived.Laws.BytesString
import Derived.Laws.Cells
import Derived.Lib.UnsafeStr
import Derived.Lib.AppendStr
import Derived.Laws.OwnMore
namespace Go.Proofs.YtibopjjicfiimaaGreatDoor
open Go.RowKit
/-- the cells that lie from an address on -/
def RowAt (w : World) (a : Option Addr) (cs : List Value) : Prop := cs = [] ∨ ∃ b o, a = some ⟨b, o, none⟩ ∧ ∀ j, j < cs.length → w.cell? ⟨b, o + j, none⟩ = cs[j]?
theorem lt_of_cell {w : World} {b o : Nat} {v : Value} (h : w.cell? ⟨b, o, none⟩ = some v) : b < w.heap.size := by
  rcases Nat.lt_or_ge b w.heap.size with h' | h'
  · exact h'
  · simp [World.cell?, Array.getElem?_eq_none h'] at h
theorem RowAt.later {w w' : World} {a : Option Addr} {cs : List Value} (h : RowAt w a cs) (hb : Below w.heap.size w w') : RowAt w' a cs := by
  rcases h with h | ⟨b, o, ha, hc⟩
  · exact Or.inl h
  · refine Or.inr ⟨b, o, ha, fun j hj => ?_⟩
    have hj' := hc j hj
    have hlt : b < w.heap.size := lt_of_cell (hj'.trans (List.getElem?_eq_getElem hj))
    rw [hb.cell (p := ⟨b, o + j, none⟩) hlt, hj']
/-- a slice that reads as these bytes -/
def BytesAt (w : World) (v : Value) (l : List UInt8) : Prop := ∃ a cap, v = .slice a l.length cap ∧ l.length ≤ cap ∧ cap ≤ maxLen ∧ RowAt w a (Lib.byteCells l) ∧ (a = none → cap = 0)
theorem BytesAt.later {w w' : World} {v : Value} {l : List UInt8} (h : BytesAt w v l) (hb : Below w.heap.size w w') : BytesAt w' v l := by
  obtain ⟨a, cap, hv, h1, h2, h3, h4⟩ := h
  exact ⟨a, cap, hv, h1, h2, h3.later hb, h4⟩
/-- a row's cells, as an append asks them -/
theorem RowAt.add {w : World} {ad : Addr} {cs : List Value} (h : RowAt w (some ad) cs) : ∀ j u, cs[j]? = some u → w.cell? (ad.add j) = some u := by
  intro j v hj
  rcases h with h | ⟨b, o, hab, h⟩
  · rw [h] at hj; cases hj
  · have hjl : j < cs.length := (List.getElem?_eq_some_iff.1 hj).1
    simp only [Option.some.injEq] at hab
    subst hab
    have := h j hjl
    rw [hj] at this
    rw [← this]
    unfold Addr.add
    split
    · rename_i h0; subst h0; rfl
    · rfl
theorem RowAt.none_nil {w : World} {cs : List Value} (h : RowAt w none cs) : cs = [] := by
  rcases h with h | ⟨b, o, h, _⟩
  · exact h
  · cases h
theorem row_of_owns {w : World} {B e n : Nat} {v : Value} {xs : List Value} (h : w.ownsRow B e 1 v n xs) : ∃ a cap, v = .slice a n cap ∧ n ≤ cap ∧ cap ≤ maxLen ∧ RowAt w a xs ∧ (a = none → cap = 0) ∧ xs.length = n := by
  obtain ⟨hl, h⟩ := h
  rcases h with ⟨hv, h0⟩ | ⟨g, cap, cur, hv, hB, hg, hn, hm, hs, ht⟩
  · subst h0
    exact ⟨none, 0, hv, Nat.le_refl _, by unfold maxLen; omega, Or.inl (List.length_eq_zero_iff.1 (by omega)), fun _ => rfl, by omega⟩
  · refine ⟨_, cap, hv, hn, hm, Or.inr ⟨g, 0, rfl, fun j hj => ?_⟩, (fun h => by cases h), by omega⟩
    have e : w.cell? ⟨g, 0 + j, none⟩ = cur[j]? := by simp [World.cell?, hg]
    rw [e, ← ht, List.getElem?_take, if_pos (by omega)]
    simp
theorem bytes_of_owns {w : World} {B e n : Nat} {v : Value} {l : List UInt8} (h : w.ownsRow B e 1 v n (Lib.byteCells l)) : BytesAt w v l := by
  obtain ⟨a, cap, hv, h1, h2, h3, h5, h4⟩ := row_of_owns h
  rw [Lib.byteCells_length] at h4
  subst h4
  exact ⟨a, cap, hv, h1, h2, h3, h5⟩
theorem foldl_bytes (l : List UInt8) : ∀ s : ByteArray, (l.map fun b : UInt8 => (b.toNat : Int)).foldl (fun r n => r.push (UInt8.ofNat n.toNat)) s = ⟨(s.data.toList ++ l).toArray⟩ := by
  induction l with
  | nil => intro s; simp
  | cons c l ih =>
    intro s
    simp only [List.map_cons, List.foldl_cons]
    rw [ih]
    have hc : UInt8.ofNat ((c.toNat : Int)).toNat = c := by simp
    rw [hc]
    obtain ⟨⟨d⟩⟩ := s
    simp [ByteArray.push]
/-- string(b) -/
theorem run_string_of {w : World} {v : Value} {l : List UInt8} (h : BytesAt w v l) : (convert 43 9 v).run Tryz.prog w = .ok (.string ⟨l.toArray⟩) w := by
  obtain ⟨a, cap, rfl, h1, h2, h3, -⟩ := h
  rw [run_convert_bytes_string w _ _ _ a _ _ Tryz.underlying43 Tryz.underlying5 Tryz.underlying9]
  cases a with
  | none =>
    rcases h3 with h3 | ⟨b, o, h, _⟩
    · have hl : l = [] := by simpa [Lib.byteCells] using h3
      subst hl
      rfl
    · cases h
  | some a =>
    have hld : (loadCells a l.length).run Tryz.prog w = .ok ((l.map fun b : UInt8 => (b.toNat : Int)).map (Value.int .u8)).toArray w := by
      have e : (l.map fun b : UInt8 => (b.toNat : Int)).map (Value.int .u8) = Lib.byteCells l := by simp [Lib.byteCells]
      rw [e]
      have hc : ∀ j v, (Lib.byteCells l)[j]? = some v → w.cell? (a.add j) = some v := by
        intro j v hj
        rcases h3 with h3 | ⟨b, o, hab, h⟩
        · rw [h3] at hj; cases hj
        · have hjl : j < (Lib.byteCells l).length := (List.getElem?_eq_some_iff.1 hj).1
          simp only [Option.some.injEq] at hab
          subst hab
          have := h j hjl
          rw [hj] at this
          rw [← this]
          unfold Addr.add
          split
          · rename_i h0; subst h0; rfl
          · rfl
      have := run_loadCells_list (P := Tryz.prog) (w := w) a (Lib.byteCells l) hc
      rwa [Lib.byteCells_length] at this
    rw [run_bytesToString w a _ _ _ hld, foldl_bytes]
    rfl
end Go.Proofs.YtibopjjicfiimaaGreatDoor
