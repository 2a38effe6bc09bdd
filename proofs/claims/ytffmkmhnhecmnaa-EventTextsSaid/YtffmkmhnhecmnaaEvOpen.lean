/- Events that came in: what their cells are. -/
import Derived.Test.YtffmkmhnhecmnaaEvWalk2
import Derived.Test.YtffmkmhnhecmnaaRows
import Derived.Deep.Slices
import Derived.Deep.Fields
import Derived.Lib.SmallJoins
import Derived.ProofKit
import Derived.OpenShut
namespace Go.Proofs.Ytffmkmhnhecmnaa
open Go.Joins Go.ChangeShapes Go.WideShapes Go.ChangeAt Go.RowKit Go.Deep
theorem cell_plain {w : World} {a : Addr} {k : Nat} {v : Value} (h : w.cell? (a.add k) = some v) : w.cell? ⟨a.block, a.off + k, none⟩ = some v := by
  by_cases hk : k = 0
  · subst hk
    rw [show a.add 0 = a from rfl] at h
    rw [Nat.add_zero]
    rw [← h]
    unfold World.cell? at h ⊢
    split at h
    · rename_i c t fr hc
      simp only [hc]
      cases hs : a.spot with
      | none => rfl
      | some s => rw [hs] at h; simp at h
    · cases h
  · rw [show a.add k = ⟨a.block, a.off + k, none⟩ by unfold Addr.add; rw [if_neg hk]] at h
    exact h
theorem spot_plain {w : World} {a : Addr} {v : Value} (h : w.cell? (a.add 0) = some v) : a = ⟨a.block, a.off, none⟩ := by
  rw [show a.add 0 = a from rfl] at h
  unfold World.cell? at h
  split at h
  · cases hs : a.spot with
    | none => cases a; simp at hs; subst hs; rfl
    | some s => rw [hs] at h; simp at h
  · cases h
def byteOf : Value → UInt8
  | .int _ n => UInt8.ofNat n.toNat
  | _ => 0
theorem byteOf_back {n : Int} (h : (Lit.int .u8 n).wf = true) : Value.int .u8 ((byteOf (.int .u8 n)).toNat : Int) = .int .u8 n := by
  have hb := bounds_u8 h
  show Value.int .u8 ((UInt8.ofNat n.toNat).toNat : Int) = _
  have e : (UInt8.ofNat n.toNat).toNat = n.toNat % 256 := by simp
  rw [e, Nat.mod_eq_of_lt (by omega)]
  congr 1
  omega
theorem open_bytes_at {H : Type} {enc : TypeId × Value → H} {w : World} {base : Nat} {spare : Nat → Bool} {held : Bool} {fuel : Nat} {cs : List Value} {x : DataW H × List MemPlace}
    (h : DataW.trod enc Try.prog w base spare held fuel 33 cs = some x) : ∃ v l, cs = [v] ∧ BytesAt w v l := by
  rcases open_slice1 Try.underlying33 (by kernel_rfl) h with ⟨rfl, -⟩ | ⟨a, len, cap, m, n, V, D, Pl, rfl, hb, hl, hm, hmm, -, hi⟩
  · exact ⟨_, [], rfl, bytes_none w⟩
  · have hml : len ≤ m := by rw [hmm]; split <;> omega
    have hcell : ∀ i, i < len → w.cell? (a.add i) = some (.int .u8 ((byteOf (V i)).toNat : Int)) := fun i hil => by
      obtain ⟨h1, h2⟩ := hi i (by omega)
      obtain ⟨k, hk, -, hw⟩ := DataW.trod_int Try.underlying5 h2
      injection hk with hk
      rw [h1, hk, byteOf_back hw]
    refine ⟨_, (List.range len).map fun i => byteOf (V i), rfl, some a, cap, ?_, ?_, hm, ?_, fun h => by cases h⟩
    · rw [List.length_map, List.length_range]
    · rw [List.length_map, List.length_range]; exact hl
    · by_cases h0 : len = 0
      · subst h0; exact Or.inl rfl
      · refine Or.inr ⟨a.block, a.off, congrArg some (spot_plain (hcell 0 (by omega))), fun j hj => ?_⟩
        rw [Lib.byteCells_length, List.length_map, List.length_range] at hj
        rw [cell_plain (hcell j hj)]
        simp [Lib.byteCells, hj]
theorem ev_fields : ∃ f0 f1 f2 : Field, Try.prog.underlying 40 = some (.struct #[f0, f1, f2]) ∧ oneCellFields Try.prog #[f0, f1, f2] = true ∧
    f0.type = 3 ∧ f1.type = 33 ∧ f2.type = 9 :=
  ⟨_, _, _, Try.underlying40, by kernel_rfl, rfl, rfl, rfl⟩
set_option maxRecDepth 100000 in
theorem open_ev {H : Type} {enc : TypeId × Value → H} {w : World} {base : Nat} {spare : Nat → Bool} {held : Bool} {fuel : Nat} {cs : List Value} {x : DataW H × List MemPlace}
    (h : DataW.trod enc Try.prog w base spare held fuel 40 cs = some x) : ∃ (e : Ev) (bv : Value) (nm : ByteArray), cs = [.int .i64 e.kind, bv, .string nm] ∧ nm.data.toList = e.name ∧ BytesAt w bv e.bytes := by
  obtain ⟨f0, f1, f2, hs, hone, t0, t1, t2⟩ := ev_fields
  have hC : Try.prog.cellsOf 40 = 3 := by kernel_rfl
  obtain ⟨xs, n, -, -, hlc, hlen, hg⟩ := DataW.trod_struct hs h
  match cs, hlc.trans hC with
  | [c0, c1, c2], _ =>
    match xs, hlen with
    | [y0, y1, y2], _ =>
      obtain ⟨o0, k0⟩ := hone_of hone 0 f0 rfl
      rw [t0] at k0
      obtain ⟨o1, k1⟩ := hone_of hone 1 f1 rfl
      rw [t1] at k1
      obtain ⟨o2, k2⟩ := hone_of hone 2 f2 rfl
      rw [t2] at k2
      have g0 := hg 0 f0 rfl
      have g1 := hg 1 f1 rfl
      have g2 := hg 2 f2 rfl
      simp [o0, t0, k0] at g0
      simp [o1, t1, k1] at g1
      simp [o2, t2, k2] at g2
      obtain ⟨a0, e0, _, w0⟩ := DataW.trod_int Try.underlying3 g0
      obtain ⟨a1, l1, e1, w1⟩ := open_bytes_at g1
      obtain ⟨a2, e2, _, w2⟩ := DataW.trod_string Try.underlying9 g2
      simp at e0 e1 e2
      subst e0 e1 e2
      exact ⟨⟨a0, l1, a2.data.toList⟩, _, a2, rfl, rfl, w1⟩
set_option maxRecDepth 100000 in
theorem open_evs {H : Type} {enc : TypeId × Value → H} {w : World} {base : Nat} {spare : Nat → Bool} {held : Bool} {r : Reach} {b0 : Nat} {v : Value} {d : DataW H} {p : List MemPlace}
    (hv : Value.okWide Try.prog w r b0 22 v) (h : DataW.Trod enc Try.prog w base spare held 22 v d p) : ∃ es, EvsAt w v es := by
  obtain ⟨a, len, cap, rfl⟩ := okWide_slice Try.underlying22 hv
  obtain ⟨fuel, hf⟩ := h
  rcases open_slice Try.underlying22 hf with ⟨hcs, -⟩ | ⟨a', len', cap', m, n, D, Pl, hcs, hb, hl, hm, hmm, hx, hi⟩
  · simp [Value.cells] at hcs
    obtain ⟨rfl, rfl, rfl⟩ := hcs
    exact ⟨[], evs_none⟩
  · simp [Value.cells] at hcs
    obtain ⟨rfl, rfl, rfl⟩ := hcs
    have hC : Try.prog.cellsOf 40 = 3 := by kernel_rfl
    rw [hC] at hi
    have hml : len ≤ m := by rw [hmm]; split <;> omega
    have key : ∀ i, ∃ y : Ev × Value × ByteArray, i < len → w.cell? (a'.add (i * 3)) = some (.int .i64 y.1.kind) ∧ w.cell? (a'.add (i * 3 + 1)) = some y.2.1 ∧ w.cell? (a'.add (i * 3 + 2)) = some (.string y.2.2) ∧
        y.2.2.data.toList = y.1.name ∧ BytesAt w y.2.1 y.1.bytes := fun i => by
      by_cases hil : i < len
      · obtain ⟨cs', h1, h2⟩ := hi i (by omega)
        obtain ⟨e, bv, nm, rfl, hn, hbv⟩ := open_ev h2
        obtain ⟨-, -, hc⟩ := World.cells?_some h1
        have c0 := hc 0 (by omega)
        have c1 := hc 1 (by omega)
        have c2 := hc 2 (by omega)
        rw [Go.Deep.add_add] at c0 c1 c2
        exact ⟨⟨e, bv, nm⟩, fun _ => ⟨c0, c1, c2, hn, hbv⟩⟩
      · exact ⟨⟨⟨0, [], []⟩, .nilIface, ⟨#[]⟩⟩, fun h => absurd h hil⟩
    obtain ⟨f, hf'⟩ := Classical.skolem.1 key
    have hcell : ∀ j, j < len * 3 → ∃ u, w.cell? ⟨a'.block, a'.off + j, none⟩ = some u := fun j hj => by
      obtain ⟨c0, c1, c2, -, -⟩ := hf' (j / 3) (by omega)
      have hr : j = j / 3 * 3 ∨ j = j / 3 * 3 + 1 ∨ j = j / 3 * 3 + 2 := by omega
      rcases hr with hr | hr | hr <;> rw [hr]
      · exact ⟨_, cell_plain c0⟩
      · exact ⟨_, cell_plain c1⟩
      · exact ⟨_, cell_plain c2⟩
    have hes : ((List.range len).map fun i => (f i).1).length = len := by rw [List.length_map, List.length_range]
    have hxs : ((List.range (len * 3)).map fun j => (w.cell? ⟨a'.block, a'.off + j, none⟩).getD .nilIface).length = len * 3 := by rw [List.length_map, List.length_range]
    have hat : ∀ j, j < len * 3 → ((List.range (len * 3)).map fun j => (w.cell? ⟨a'.block, a'.off + j, none⟩).getD .nilIface)[j]? = w.cell? ⟨a'.block, a'.off + j, none⟩ := fun j hj => by
      obtain ⟨u, hu⟩ := hcell j hj
      rw [List.getElem?_map, List.getElem?_range hj]
      simp [hu]
    refine ⟨(List.range len).map fun i => (f i).1, some a', cap, (List.range (len * 3)).map fun j => (w.cell? ⟨a'.block, a'.off + j, none⟩).getD .nilIface, by rw [hes], by rw [hes]; exact hl, hm, ?_, ⟨by rw [hxs, hes], fun i e he => ?_⟩, fun h => by cases h⟩
    · by_cases h0 : len = 0
      · subst h0; exact Or.inl rfl
      · refine Or.inr ⟨a'.block, a'.off, congrArg some (spot_plain (hf' 0 (by omega)).1), fun j hj => ?_⟩
        rw [hxs] at hj
        exact (hat j hj).symm
    · have hil : i < len := by have := (List.getElem?_eq_some_iff.1 he).1; rw [hes] at this; exact this
      rw [List.getElem?_map, List.getElem?_range hil] at he
      simp at he
      subst he
      obtain ⟨c0, c1, c2, hn, hbv⟩ := hf' i hil
      exact ⟨_, _, (hat _ (by omega)).trans (cell_plain c0), (hat _ (by omega)).trans (cell_plain c1), (hat _ (by omega)).trans (cell_plain c2), hn, hbv⟩
end Go.Proofs.Ytffmkmhnhecmnaa
