/- Bytes, answers and how many there are, as they came in: what their cells are. -/
import Derived.Test.YtnajgpefmknmpaaDoorCodeLaid
namespace Go.Proofs.YtnajgpefmknmpaaDoor
open Go.Joins Go.ChangeShapes Go.WideShapes Go.ChangeAt Go.RowKit Go.Deep
set_option linter.unusedVariables false
def byteOf : Value → UInt8
  | .int _ n => UInt8.ofNat n.toNat
  | _ => 0
theorem byteOf_back {n : Int} (h : (Lit.int .u8 n).wf = true) : Value.int .u8 ((byteOf (.int .u8 n)).toNat : Int) = .int .u8 n := by
  have hb := bounds_u8 h
  show Value.int .u8 ((UInt8.ofNat n.toNat).toNat : Int) = _
  have e : (UInt8.ofNat n.toNat).toNat = n.toNat % 256 := by simp
  rw [e, Nat.mod_eq_of_lt (by omega)]
  congr 1
  omega
theorem open_bytes_at {H : Type} {enc : TypeId × Value → H} {w : World} {base : Nat} {spare : Nat → Bool} {held : Bool} {fuel : Nat} {cs : List Value} {x : DataW H × List MemPlace}
    (h : DataW.trod enc Tryd.prog w base spare held fuel 29 cs = some x) : ∃ v l, cs = [v] ∧ BytesAt w v l := by
  rcases open_slice1 Tryd.underlying29 (by kernel_rfl) h with ⟨rfl, -⟩ | ⟨a, len, cap, m, n, V, D, Pl, rfl, hb, hl, hm, hmm, -, hi⟩
  · exact ⟨_, [], rfl, bytes_none w⟩
  · have hml : len ≤ m := by rw [hmm]; split <;> omega
    have hcell : ∀ i, i < len → w.cell? (a.add i) = some (.int .u8 ((byteOf (V i)).toNat : Int)) := fun i hil => by
      obtain ⟨h1, h2⟩ := hi i (by omega)
      obtain ⟨k, hk, -, hw⟩ := DataW.trod_int Tryd.underlying5 h2
      injection hk with hk
      rw [h1, hk, byteOf_back hw]
    refine ⟨_, (List.range len).map fun i => byteOf (V i), rfl, some a, cap, ?_, ?_, hm, ?_, fun h => by cases h⟩
    · rw [List.length_map, List.length_range]
    · rw [List.length_map, List.length_range]; exact hl
    · by_cases h0 : len = 0
      · subst h0; exact Or.inl rfl
      · refine Or.inr ⟨a.block, a.off, congrArg some (spot_plain (hcell 0 (by omega))), fun j hj => ?_⟩
        rw [Lib.byteCells_length, List.length_map, List.length_range] at hj
        rw [cell_plain (hcell j hj)]
        simp [Lib.byteCells, hj]
set_option maxRecDepth 100000 in
theorem open_bytes {H : Type} {enc : TypeId × Value → H} {w : World} {base : Nat} {spare : Nat → Bool} {held : Bool} {r : Reach} {b0 : Nat} {v : Value} {d : DataW H} {p : List MemPlace}
    (hv : Value.okWide Tryd.prog w r b0 29 v) (h : DataW.Trod enc Tryd.prog w base spare held 29 v d p) : ∃ l, BytesAt w v l := by
  obtain ⟨a, len, cap, rfl⟩ := okWide_slice Tryd.underlying29 hv
  obtain ⟨fuel, hf⟩ := h
  obtain ⟨v, l, hc, hb⟩ := open_bytes_at hf
  simp [Value.cells] at hc
  subst hc
  exact ⟨l, hb⟩
/-- a slice that reads as these answers -/
def BoolsAt (w : World) (v : Value) (l : List Bool) : Prop := ∃ a cap, v = .slice a l.length cap ∧ l.length ≤ cap ∧ cap ≤ maxLen ∧ RowAt w a (l.map Value.bool) ∧ (a = none → cap = 0)
theorem BoolsAt.later {w w' : World} {v : Value} {l : List Bool} (h : BoolsAt w v l) (hb : Below w.heap.size w w') : BoolsAt w' v l := by
  obtain ⟨a, cap, hv, h1, h2, h3, h4⟩ := h
  exact ⟨a, cap, hv, h1, h2, h3.later hb, h4⟩
def boolOf : Value → Bool
  | .bool b => b
  | _ => false
set_option maxRecDepth 100000 in
theorem open_bools {H : Type} {enc : TypeId × Value → H} {w : World} {base : Nat} {spare : Nat → Bool} {held : Bool} {r : Reach} {b0 : Nat} {v : Value} {d : DataW H} {p : List MemPlace}
    (hv : Value.okWide Tryd.prog w r b0 49 v) (h : DataW.Trod enc Tryd.prog w base spare held 49 v d p) : ∃ l, BoolsAt w v l := by
  obtain ⟨a, len, cap, rfl⟩ := okWide_slice Tryd.underlying49 hv
  obtain ⟨fuel, hf⟩ := h
  rcases open_slice1 Tryd.underlying49 (by kernel_rfl) hf with ⟨hcs, -⟩ | ⟨a', len', cap', m, n, V, D, Pl, hcs, hb, hl, hm, hmm, -, hi⟩
  · simp [Value.cells] at hcs
    obtain ⟨rfl, rfl, rfl⟩ := hcs
    exact ⟨[], none, 0, rfl, Nat.le_refl _, by unfold maxLen; omega, Or.inl rfl, fun _ => rfl⟩
  · simp [Value.cells] at hcs
    obtain ⟨rfl, rfl, rfl⟩ := hcs
    have hml : len ≤ m := by rw [hmm]; split <;> omega
    have hcell : ∀ i, i < len → w.cell? (a'.add i) = some (.bool (boolOf (V i))) := fun i hil => by
      obtain ⟨h1, h2⟩ := hi i (by omega)
      obtain ⟨z, hz, -⟩ := DataW.trod_bool Tryd.underlying4 h2
      injection hz with hz
      rw [hz] at h1 ⊢
      exact h1
    refine ⟨(List.range len).map fun i => boolOf (V i), some a', cap, ?_, ?_, hm, ?_, fun h => by cases h⟩
    · rw [List.length_map, List.length_range]
    · rw [List.length_map, List.length_range]; exact hl
    · by_cases h0 : len = 0
      · subst h0; exact Or.inl rfl
      · refine Or.inr ⟨a'.block, a'.off, congrArg some (spot_plain (hcell 0 (by omega))), fun j hj => ?_⟩
        rw [List.length_map, List.length_map, List.length_range] at hj
        rw [cell_plain (hcell j hj)]
        simp [hj]
theorem world_fields : ∃ f0 f1 f2 : Field, Tryd.prog.underlying 48 = some (.struct #[f0, f1, f2]) ∧ oneCellFields Tryd.prog #[f0, f1, f2] = true ∧
    f0.type = 3 ∧ f1.type = 3 ∧ f2.type = 3 :=
  ⟨_, _, _, Tryd.underlying48, by kernel_rfl, rfl, rfl, rfl⟩
set_option maxRecDepth 100000 in
theorem open_world {H : Type} {enc : TypeId × Value → H} {w : World} {base : Nat} {spare : Nat → Bool} {held : Bool} {r : Reach} {b0 : Nat} {v : Value} {d : DataW H} {p : List MemPlace}
    (hv : Value.okWide Tryd.prog w r b0 48 v) (h : DataW.Trod enc Tryd.prog w base spare held 48 v d p) :
    ∃ x y z : Int, v = .agg #[.int .i64 x, .int .i64 y, .int .i64 z] ∧ I64 x ∧ I64 y ∧ I64 z := by
  obtain ⟨f0, f1, f2, hs, hone, t0, t1, t2⟩ := world_fields
  obtain ⟨cs, rfl, hsz⟩ := okWide_struct hs hv
  have hC : Tryd.prog.cellsOf 48 = 3 := by kernel_rfl
  obtain ⟨l⟩ := cs
  match l, hsz.trans hC with
  | [c0, c1, c2], _ =>
    obtain ⟨fuel, hf⟩ := h
    obtain ⟨xs, n, _, -, -, hlen, hg⟩ := DataW.trod_struct hs hf
    match xs, hlen with
    | [y0, y1, y2], _ =>
      obtain ⟨o0, k0⟩ := hone_of hone 0 f0 rfl
      rw [t0] at k0
      obtain ⟨o1, k1⟩ := hone_of hone 1 f1 rfl
      rw [t1] at k1
      obtain ⟨o2, k2⟩ := hone_of hone 2 f2 rfl
      rw [t2] at k2
      have g0 := hg 0 f0 rfl
      have g1 := hg 1 f1 rfl
      have g2 := hg 2 f2 rfl
      simp [Value.cells, o0, t0, k0] at g0
      simp [Value.cells, o1, t1, k1] at g1
      simp [Value.cells, o2, t2, k2] at g2
      obtain ⟨a0, e0, _, w0⟩ := DataW.trod_int Tryd.underlying3 g0
      obtain ⟨a1, e1, _, w1⟩ := DataW.trod_int Tryd.underlying3 g1
      obtain ⟨a2, e2, _, w2⟩ := DataW.trod_int Tryd.underlying3 g2
      simp at e0 e1 e2
      subst e0 e1 e2
      have b0 := bounds_i64 w0
      have b1 := bounds_i64 w1
      have b2 := bounds_i64 w2
      exact ⟨a0, a1, a2, rfl, ⟨by omega, by omega⟩, ⟨by omega, by omega⟩, ⟨by omega, by omega⟩⟩
end Go.Proofs.YtnajgpefmknmpaaDoor
