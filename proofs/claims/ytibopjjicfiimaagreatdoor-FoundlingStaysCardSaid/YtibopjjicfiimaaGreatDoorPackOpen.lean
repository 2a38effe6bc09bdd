/- Rows of bytes and of numbers that came in: what their cells are. -/
import Derived.Test.YtibopjjicfiimaaGreatDoorRefHeap
import Derived.ProofKit
import Derived.Deep.Slices
import Derived.Lib.SmallJoins
import Derived.OpenShut
import Derived.WideKeyPair
import Derived.Deep.Cut
import Derived.Deep.CutRange
import Derived.Deep.AppendLies
import Derived.Deep.Light
import Derived.Laws.OwnMore
namespace Go.Proofs.YtibopjjicfiimaaGreatDoor
open Go.Joins Go.ChangeShapes Go.WideShapes Go.ChangeAt Go.RowKit Go.Deep
theorem cell_plain {w : World} {a : Addr} {k : Nat} {v : Value} (h : w.cell? (a.add k) = some v) : w.cell? ⟨a.block, a.off + k, none⟩ = some v := by
  by_cases hk : k = 0
  · subst hk
    rw [show a.add 0 = a from rfl] at h
    rw [Nat.add_zero]
    rw [← h]
    unfold World.cell? at h ⊢
    split at h
    · rename_i c t fr hc
      simp only [hc]
      cases hs : a.spot with
      | none => rfl
      | some s => rw [hs] at h; simp at h
    · cases h
  · rw [show a.add k = ⟨a.block, a.off + k, none⟩ by unfold Addr.add; rw [if_neg hk]] at h
    exact h
theorem spot_plain {w : World} {a : Addr} {v : Value} (h : w.cell? (a.add 0) = some v) : a = ⟨a.block, a.off, none⟩ := by
  rw [show a.add 0 = a from rfl] at h
  unfold World.cell? at h
  split at h
  · cases hs : a.spot with
    | none => cases a; simp at hs; subst hs; rfl
    | some s => rw [hs] at h; simp at h
  · cases h
def byteOf : Value → UInt8
  | .int _ n => UInt8.ofNat n.toNat
  | _ => 0
theorem byteOf_back {n : Int} (h : (Lit.int .u8 n).wf = true) : Value.int .u8 ((byteOf (.int .u8 n)).toNat : Int) = .int .u8 n := by
  have hb := bounds_u8 h
  show Value.int .u8 ((UInt8.ofNat n.toNat).toNat : Int) = _
  have e : (UInt8.ofNat n.toNat).toNat = n.toNat % 256 := by simp
  rw [e, Nat.mod_eq_of_lt (by omega)]
  congr 1
  omega
theorem open_bytes_at {H : Type} {enc : TypeId × Value → H} {w : World} {base : Nat} {spare : Nat → Bool} {held : Bool} {fuel : Nat} {cs : List Value} {x : DataW H × List MemPlace}
    (h : DataW.trod enc Tryz.prog w base spare held fuel 43 cs = some x) : ∃ v l, cs = [v] ∧ BytesAt w v l := by
  rcases open_slice1 Tryz.underlying43 (by kernel_rfl) h with ⟨rfl, -⟩ | ⟨a, len, cap, m, n, V, D, Pl, rfl, hb, hl, hm, hmm, -, hi⟩
  · exact ⟨_, [], rfl, bytes_none w⟩
  · have hml : len ≤ m := by rw [hmm]; split <;> omega
    have hcell : ∀ i, i < len → w.cell? (a.add i) = some (.int .u8 ((byteOf (V i)).toNat : Int)) := fun i hil => by
      obtain ⟨h1, h2⟩ := hi i (by omega)
      obtain ⟨k, hk, -, hw⟩ := DataW.trod_int Tryz.underlying5 h2
      injection hk with hk
      rw [h1, hk, byteOf_back hw]
    refine ⟨_, (List.range len).map fun i => byteOf (V i), rfl, some a, cap, ?_, ?_, hm, ?_, fun h => by cases h⟩
    · rw [List.length_map, List.length_range]
    · rw [List.length_map, List.length_range]; exact hl
    · by_cases h0 : len = 0
      · subst h0; exact Or.inl rfl
      · refine Or.inr ⟨a.block, a.off, congrArg some (spot_plain (hcell 0 (by omega))), fun j hj => ?_⟩
        rw [Lib.byteCells_length, List.length_map, List.length_range] at hj
        rw [cell_plain (hcell j hj)]
        simp [Lib.byteCells, hj]
set_option maxRecDepth 100000 in
theorem open_bytes {H : Type} {enc : TypeId × Value → H} {w : World} {base : Nat} {spare : Nat → Bool} {held : Bool} {r : Reach} {b0 : Nat} {v : Value} {d : DataW H} {p : List MemPlace}
    (hv : Value.okWide Tryz.prog w r b0 43 v) (h : DataW.Trod enc Tryz.prog w base spare held 43 v d p) : ∃ l, BytesAt w v l := by
  obtain ⟨a, len, cap, rfl⟩ := okWide_slice Tryz.underlying43 hv
  obtain ⟨fuel, hf⟩ := h
  obtain ⟨v, l, hc, hb⟩ := open_bytes_at hf
  simp [Value.cells] at hc
  subst hc
  exact ⟨l, hb⟩
/-- a slice that reads as these numbers of one kind -/
def NumsAt (w : World) (k : IntKind) (v : Value) (l : List Int) : Prop := ∃ a cap, v = .slice a l.length cap ∧ l.length ≤ cap ∧ cap ≤ maxLen ∧ (a = none → cap = 0) ∧
  ∀ i (hi : i < l.length), ∃ b o, a = some ⟨b, o, none⟩ ∧ w.cell? ⟨b, o + i, none⟩ = some (.int k l[i]) ∧ (Lit.int k l[i]).wf = true
theorem NumsAt.later {w w' : World} {k : IntKind} {v : Value} {l : List Int} (h : NumsAt w k v l) (hb : Below w.heap.size w w') : NumsAt w' k v l := by
  obtain ⟨a, cap, hv, h1, h2, h3, h4⟩ := h
  refine ⟨a, cap, hv, h1, h2, h3, fun i hi => ?_⟩
  obtain ⟨b, o, ha, hc, hw⟩ := h4 i hi
  exact ⟨b, o, ha, by rw [hb.cell (p := ⟨b, o + i, none⟩) (lt_of_cell hc)]; exact hc, hw⟩
def intOf : Value → Int
  | .int _ n => n
  | _ => 0
set_option maxRecDepth 100000 in
theorem open_nums {H : Type} {enc : TypeId × Value → H} {w : World} {base : Nat} {spare : Nat → Bool} {held : Bool} {r : Reach} {b0 : Nat} {v : Value} {d : DataW H} {p : List MemPlace} {t e : TypeId} {k : IntKind}
    (ht : Tryz.prog.underlying t = some (.slice e)) (he : Tryz.prog.underlying e = some (.int k)) (hce : Tryz.prog.cellsOf e = 1)
    (hv : Value.okWide Tryz.prog w r b0 t v) (h : DataW.Trod enc Tryz.prog w base spare held t v d p) : ∃ l, NumsAt w k v l := by
  obtain ⟨a, len, cap, rfl⟩ := okWide_slice ht hv
  obtain ⟨fuel, hf⟩ := h
  rcases open_slice1 ht hce hf with ⟨hcs, -⟩ | ⟨a', len', cap', m, n, V, D, Pl, hcs, hb, hl, hm, hmm, -, hi⟩
  · simp [Value.cells] at hcs
    obtain ⟨rfl, rfl, rfl⟩ := hcs
    exact ⟨[], none, 0, rfl, Nat.le_refl _, by unfold maxLen; omega, fun _ => rfl, fun i hi => by simp at hi⟩
  · simp [Value.cells] at hcs
    obtain ⟨rfl, rfl, rfl⟩ := hcs
    have hml : len ≤ m := by rw [hmm]; split <;> omega
    have hcell : ∀ i, i < len → w.cell? (a'.add i) = some (.int k (intOf (V i))) ∧ (Lit.int k (intOf (V i))).wf = true := fun i hil => by
      obtain ⟨h1, h2⟩ := hi i (by omega)
      obtain ⟨z, hz, -, hw⟩ := DataW.trod_int he h2
      injection hz with hz
      rw [hz] at h1 ⊢
      exact ⟨h1, hw⟩
    refine ⟨(List.range len).map fun i => intOf (V i), some a', cap, ?_, ?_, hm, fun h => (by cases h), fun i hi => ?_⟩
    · rw [List.length_map, List.length_range]
    · rw [List.length_map, List.length_range]; exact hl
    · have hil : i < len := by simpa using hi
      refine ⟨a'.block, a'.off, congrArg some (spot_plain (hcell 0 (by omega)).1), ?_, ?_⟩
      · rw [cell_plain (hcell i hil).1]; simp
      · simpa using (hcell i hil).2
/-- a part of a row of bytes -/
theorem bytes_part {w : World} {a : Option Addr} {c m n : Nat} {l : List UInt8} (h : BytesAt w (.slice a l.length c) l) (hm : m ≤ n) (hn : n ≤ l.length) :
    BytesAt w (.slice (a.map fun x => x.add m) (n - m) (c - m)) ((l.take n).drop m) := by
  obtain ⟨a', c', hv, h1, h2, h3, h4⟩ := h
  injection hv with ha _ hc
  subst ha hc
  have hlen : ((l.take n).drop m).length = n - m := by rw [List.length_drop, List.length_take]; omega
  refine ⟨a.map fun x => x.add m, c - m, by rw [hlen], by omega, by omega, ?_, fun he => ?_⟩
  · rcases h3 with h3 | ⟨b, o, hab, hcell⟩
    · refine Or.inl ?_
      have hl0 : l = [] := by simpa [Lib.byteCells] using h3
      subst hl0; simp [Lib.byteCells]
    · subst hab
      by_cases h0 : (l.take n).drop m = []
      · rw [h0]; exact Or.inl rfl
      · have hlt : m < n := by
          rcases Nat.lt_or_ge m n with h | h
          · exact h
          · exact absurd (List.length_eq_zero_iff.1 (by rw [hlen]; omega)) h0
        refine Or.inr ⟨b, o + m, ?_, fun j hj => ?_⟩
        · simp only [Option.map_some, Option.some.injEq]
          unfold Addr.add
          split
          · rename_i hz; subst hz; rfl
          · rfl
        · rw [Lib.byteCells_length, hlen] at hj
          rw [Nat.add_assoc, hcell (m + j) (by rw [Lib.byteCells_length]; omega)]
          simp only [Lib.byteCells, List.map_drop, List.map_take, List.getElem?_drop]
          rw [List.getElem?_take, if_pos (by omega)]
  · cases a with
    | none => have := h4 rfl; omega
    | some a => cases he
/-- a row of bytes of the call's own: where it lies -/
theorem ownsB_form {w : World} {B : Nat} {v : Value} {l : List UInt8} (h : OwnsB w B v l) (hn : 0 < l.length) : ∃ g cap, v = .slice (some ⟨g, 0, none⟩) l.length cap ∧ B ≤ g ∧ g < w.heap.size ∧ l.length ≤ cap ∧ cap ≤ maxLen := by
  obtain ⟨g, cap, hv, h1, h2⟩ := World.ownsRow.form h hn
  obtain ⟨a, c, hv', h3, h4, -⟩ := row_of_owns_any h
  rw [hv] at hv'
  injection hv' with _ _ hc
  subst hc
  exact ⟨g, cap, hv, h1, h2, h3, h4⟩
theorem ownsB_cell {w : World} {B g cap : Nat} {l : List UInt8} (h : OwnsB w B (.slice (some ⟨g, 0, none⟩) l.length cap) l) (i : Nat) (hi : i < l.length) : w.cell? ⟨g, i, none⟩ = some (.int .u8 (l[i].toNat : Int)) := by
  rw [World.ownsRow.cellAt h i (by omega)]
  simp [Lib.byteCells, hi]
theorem ownsB_set {w : World} {B g cap : Nat} {l : List UInt8} (h : OwnsB w B (.slice (some ⟨g, 0, none⟩) l.length cap) l) (i : Nat) (c : UInt8) : OwnsB (w.setCell ⟨g, i, none⟩ (.int .u8 (c.toNat : Int))) B (.slice (some ⟨g, 0, none⟩) l.length cap) (l.set i c) := by
  have hs := (World.ownsRow.stored h i (.int .u8 (c.toNat : Int))).1
  unfold OwnsB
  rw [List.length_set]
  rw [show Lib.byteCells (l.set i c) = (Lib.byteCells l).set i (.int .u8 (c.toNat : Int)) by simp [Lib.byteCells, List.map_set]]
  exact hs
end Go.Proofs.YtibopjjicfiimaaGreatDoor
