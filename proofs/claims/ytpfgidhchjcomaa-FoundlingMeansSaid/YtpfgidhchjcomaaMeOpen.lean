/- A method and a world that came in: what their cells are. -/
import Derived.Test.YtpfgidhchjcomaaMeAllN
import Derived.Test.YtpfgidhchjcomaaRows
import Derived.Deep.Slices
import Derived.Deep.Fields
import Derived.Lib.SmallJoins
import Derived.ProofKit
import Derived.OpenShut
namespace Go.Proofs.Ytpfgidhchjcomaa
open Go.Joins Go.ChangeShapes Go.WideShapes Go.ChangeAt Go.RowKit Go.Deep
set_option linter.unusedVariables false
theorem cell_plain {w : World} {a : Addr} {k : Nat} {v : Value} (h : w.cell? (a.add k) = some v) : w.cell? ⟨a.block, a.off + k, none⟩ = some v := by
  by_cases hk : k = 0
  · subst hk
    rw [show a.add 0 = a from rfl] at h
    rw [Nat.add_zero]
    rw [← h]
    unfold World.cell? at h ⊢
    split at h
    · rename_i c t fr hc
      simp only [hc]
      cases hs : a.spot with
      | none => rfl
      | some s => rw [hs] at h; simp at h
    · cases h
  · rw [show a.add k = ⟨a.block, a.off + k, none⟩ by unfold Addr.add; rw [if_neg hk]] at h
    exact h
theorem spot_plain {w : World} {a : Addr} {v : Value} (h : w.cell? (a.add 0) = some v) : a = ⟨a.block, a.off, none⟩ := by
  rw [show a.add 0 = a from rfl] at h
  unfold World.cell? at h
  split at h
  · cases hs : a.spot with
    | none => cases a; simp at hs; subst hs; rfl
    | some s => rw [hs] at h; simp at h
  · cases h
section
variable {H : Type} {enc : TypeId × Value → H} {w : World} {base : Nat} {spare : Nat → Bool} {held : Bool}
theorem slice_down {fuel : Nat} {t e : TypeId} {cs : List Value} {x : DataW H × List MemPlace} (ht : Try.prog.underlying t = some (.slice e)) (h : DataW.trod enc Try.prog w base spare held fuel t cs = some x) :
    cs = [.slice none 0 0] ∨ ∃ (a : Addr) (len cap n : Nat), fuel = n + 1 ∧ cs = [.slice (some a) len cap] ∧ len ≤ cap ∧ cap ≤ maxLen ∧ ∀ i, i < len → ∃ cs' y, w.cells? base (a.add (i * Try.prog.cellsOf e)) (Try.prog.cellsOf e) = some cs' ∧ DataW.trod enc Try.prog w base spare held n e cs' = some y := by
  rcases DataW.trod_slice ht h with ⟨h0, -⟩ | ⟨a, len, cap, elems, rest, n, hf, hcs, -, -, hl, hm, hlen, hel, -, -⟩
  · exact Or.inl h0
  · refine Or.inr ⟨a, len, cap, n, hf, hcs, hl, hm, fun i hi => ?_⟩
    have key := hel i hi
    rw [List.getElem?_eq_getElem (by omega)] at key
    obtain ⟨cs', h1, h2⟩ := Option.bind_eq_some_iff.1 key
    exact ⟨cs', _, h1, h2⟩
theorem open_strs {fuel : Nat} {cs : List Value} {x : DataW H × List MemPlace} (h : DataW.trod enc Try.prog w base spare held fuel 22 cs = some x) : ∃ v l, cs = [v] ∧ StrsX (· < w.heap.size) w v l := by
  rcases slice_down Try.underlying22 h with rfl | ⟨a, len, cap, n, -, rfl, hl, hm, hi⟩
  · exact ⟨_, [], rfl, strs_nil _ _⟩
  · have hC : Try.prog.cellsOf 9 = 1 := by kernel_rfl
    rw [hC] at hi
    have key : ∀ i, ∃ s : ByteArray, i < len → w.cell? (a.add i) = some (.string s) ∧ s.size ≤ maxLen := fun i => by
      by_cases hil : i < len
      · obtain ⟨cs', y, h1, h2⟩ := hi i hil
        obtain ⟨s, e, -, hs⟩ := DataW.trod_string Try.underlying9 h2
        obtain ⟨-, -, hc⟩ := World.cells?_some h1
        subst e
        have c0 := hc 0 (by omega)
        rw [Nat.mul_one] at c0
        exact ⟨s, fun _ => ⟨c0, hs⟩⟩
      · exact ⟨⟨#[]⟩, fun h => absurd h hil⟩
    obtain ⟨f, hf⟩ := Classical.skolem.1 key
    refine ⟨_, (List.range len).map f, rfl, some a, cap, ?_, ?_, hm, (fun h => by cases h), ?_, fun s hs => ?_⟩
    · rw [List.length_map, List.length_range]
    · rw [List.length_map, List.length_range]; exact hl
    · by_cases h0 : len = 0
      · subst h0; exact Or.inl rfl
      · have hc0 := (hf 0 (by omega)).1
        refine Or.inr ⟨a.block, a.off, congrArg some (spot_plain hc0), lt_of_cell (o := a.off + 0) (cell_plain hc0), fun j hj => ?_⟩
        rw [List.length_map, List.length_map, List.length_range] at hj
        rw [cell_plain (hf j hj).1]
        simp [hj]
    · obtain ⟨i, hi', rfl⟩ := List.mem_map.1 hs
      exact (hf i (List.mem_range.1 hi')).2
theorem node_fields : ∃ f0 f1 f2 f3 f4 f5 : Field, Try.prog.underlying 43 = some (.struct #[f0, f1, f2, f3, f4, f5]) ∧ oneCellFields Try.prog #[f0, f1, f2, f3, f4, f5] = true ∧
    f0.type = 3 ∧ f1.type = 9 ∧ f2.type = 2 ∧ f3.type = 23 ∧ f4.type = 22 ∧ f5.type = 3 :=
  ⟨_, _, _, _, _, _, Try.underlying43, by kernel_rfl, rfl, rfl, rfl, rfl, rfl, rfl⟩
theorem mth_fields : ∃ f0 f1 f2 f3 f4 f5 : Field, Try.prog.underlying 25 = some (.struct #[f0, f1, f2, f3, f4, f5]) ∧ oneCellFields Try.prog #[f0, f1, f2, f3, f4, f5] = true ∧
    f0.type = 9 ∧ f1.type = 22 ∧ f2.type = 22 ∧ f3.type = 3 ∧ f4.type = 23 ∧ f5.type = 3 :=
  ⟨_, _, _, _, _, _, Try.underlying25, by kernel_rfl, rfl, rfl, rfl, rfl, rfl, rfl⟩
theorem world_fields : ∃ f0 f1 : Field, Try.prog.underlying 27 = some (.struct #[f0, f1]) ∧ oneCellFields Try.prog #[f0, f1] = true ∧
    f0.type = 22 ∧ f1.type = 22 :=
  ⟨_, _, Try.underlying27, by kernel_rfl, rfl, rfl⟩
theorem i64_of {a : Int} (h : (Lit.int .i64 a).wf = true) : I64 a := by
  have := bounds_i64 h
  unfold I64
  omega
set_option maxRecDepth 100000 in
theorem open_nds : ∀ (fuel : Nat) (cs : List Value) (x : DataW H × List MemPlace), DataW.trod enc Try.prog w base spare held fuel 23 cs = some x → ∃ v l, cs = [v] ∧ NodesX (· < w.heap.size) fuel w v l := by
  intro fuel
  induction fuel using Nat.strongRecOn with
  | _ fuel ih =>
  intro cs x h
  rcases slice_down Try.underlying23 h with rfl | ⟨a, len, cap, n, rfl, rfl, hl, hm, hi⟩
  · exact ⟨_, [], rfl, nodes_nil _ _ _⟩
  · have hC : Try.prog.cellsOf 43 = 6 := by kernel_rfl
    rw [hC] at hi
    obtain ⟨f0, f1, f2, f3, f4, f5, hs, hone, t0, t1, t2, t3, t4, t5⟩ := node_fields
    have key : ∀ i, ∃ y : Nd × Value × Value, i < len → (∀ j, j < 6 → w.cell? ⟨a.block, a.off + i * 6 + j, none⟩ = (ndC y.1 y.2.1 y.2.2)[j]?) ∧ (i = 0 → a = ⟨a.block, a.off, none⟩) ∧ NodesX (· < w.heap.size) n w y.2.1 y.1.kids ∧ StrsX (· < w.heap.size) w y.2.2 y.1.names ∧ NdOk y.1 := fun i => by
     by_cases hil : i < len
     · obtain ⟨cs', y, h1, h2⟩ := hi i hil
       obtain ⟨xs, n', hn', -, hlc, hlen, hg⟩ := DataW.trod_struct hs h2
       match cs', hlc.trans hC with
       | [c0, c1, c2, c3, c4, c5], _ =>
        match xs, hlen with
        | [y0, y1, y2, y3, y4, y5], _ =>
         obtain ⟨o0, k0⟩ := hone_of hone 0 f0 rfl
         rw [t0] at k0
         obtain ⟨o1, k1⟩ := hone_of hone 1 f1 rfl
         rw [t1] at k1
         obtain ⟨o2, k2⟩ := hone_of hone 2 f2 rfl
         rw [t2] at k2
         obtain ⟨o3, k3⟩ := hone_of hone 3 f3 rfl
         rw [t3] at k3
         obtain ⟨o4, k4⟩ := hone_of hone 4 f4 rfl
         rw [t4] at k4
         obtain ⟨o5, k5⟩ := hone_of hone 5 f5 rfl
         rw [t5] at k5
         have g0 := hg 0 f0 rfl
         simp [o0, t0, k0] at g0
         have g1 := hg 1 f1 rfl
         simp [o1, t1, k1] at g1
         have g2 := hg 2 f2 rfl
         simp [o2, t2, k2] at g2
         have g3 := hg 3 f3 rfl
         simp [o3, t3, k3] at g3
         have g4 := hg 4 f4 rfl
         simp [o4, t4, k4] at g4
         have g5 := hg 5 f5 rfl
         simp [o5, t5, k5] at g5
         obtain ⟨a0, e0, _, w0⟩ := DataW.trod_int Try.underlying3 g0
         obtain ⟨a1, e1, _, w1⟩ := DataW.trod_string Try.underlying9 g1
         obtain ⟨a2, e2, _, w2⟩ := DataW.trod_int Try.underlying2 g2
         obtain ⟨v3, l3, e3, w3⟩ := ih n' (by omega) _ _ g3
         obtain ⟨v4, l4, e4, w4⟩ := open_strs g4
         obtain ⟨a5, e5, _, w5⟩ := DataW.trod_int Try.underlying3 g5
         simp at e0 e1 e2 e3 e4 e5
         subst e0 e1 e2 e3 e4 e5
         obtain ⟨-, -, hc⟩ := World.cells?_some h1
         refine ⟨⟨.mk a0 a1 a2 l3 l4 a5, c3, c4⟩, fun _ => ⟨fun j hj => ?_, ?_, ?_, w4, i64_of w0, i64_of w2, i64_of w5, w1⟩⟩
         · have cj := hc j (by omega)
           rw [Go.Deep.add_add] at cj
           rw [Nat.add_assoc]
           rcases (show j = 0 ∨ j = 1 ∨ j = 2 ∨ j = 3 ∨ j = 4 ∨ j = 5 by omega) with rfl | rfl | rfl | rfl | rfl | rfl <;> exact cell_plain cj
         · intro hi0
           have c0 := hc 0 (by omega)
           rw [Go.Deep.add_add, hi0] at c0
           exact spot_plain c0
         · subst hn'
           exact w3.succ
     · exact ⟨⟨.mk 0 ⟨#[]⟩ 0 [] [] 0, .nilIface, .nilIface⟩, fun h => absurd h hil⟩
    obtain ⟨f, hf⟩ := Classical.skolem.1 key
    refine ⟨_, (List.range len).map fun i => (f i).1, rfl, some a, cap, ?_, ?_, hm, (fun h => by cases h), fun i nd hn => ?_⟩
    · rw [List.length_map, List.length_range]
    · rw [List.length_map, List.length_range]; exact hl
    · have hil : i < len := by
        have := (List.getElem?_eq_some_iff.1 hn).1
        rw [List.length_map, List.length_range] at this
        exact this
      rw [List.getElem?_map, List.getElem?_range hil] at hn
      simp at hn
      subst hn
      obtain ⟨q1, q2, q3, q4, q5⟩ := hf i hil
      exact ⟨a.block, a.off, _, _, congrArg some ((hf 0 (by omega)).2.1 rfl), lt_of_cell (q1 0 (by omega)), q1, q3, q4, q5⟩
end
end Go.Proofs.Ytpfgidhchjcomaa
