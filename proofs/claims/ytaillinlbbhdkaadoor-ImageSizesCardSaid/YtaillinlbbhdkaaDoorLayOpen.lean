/- A graph that came in: its kinds and leads. -/
import Derived.Test.YtaillinlbbhdkaaDoorRoots
namespace Go.Proofs.YtaillinlbbhdkaaDoor
open Go.Joins Go.ChangeShapes Go.WideShapes Go.ChangeAt Go.RowKit Go.Deep
theorem words_of_nums {w : World} {v : Value} {l : List Int} (h : NumsAt w .u64 v l) : ∃ ls : List Nat, WordsAt w v ls ∧ ∀ x, x ∈ ls → x < 18446744073709551616 := by
  obtain ⟨a, cap, rfl, h1, h2, h3, h4⟩ := h
  refine ⟨l.map Int.toNat, ⟨a, cap, by rw [List.length_map], by rw [List.length_map]; exact h1, h2, ?_, h3⟩, fun x hx => ?_⟩
  · by_cases h0 : l.length = 0
    · have : l = [] := List.length_eq_zero_iff.1 h0
      subst this
      exact Or.inl rfl
    · obtain ⟨b, o, ha, -, -⟩ := h4 0 (by omega)
      refine Or.inr ⟨b, o, ha, fun j hj => ?_⟩
      rw [wordVals_length, List.length_map] at hj
      obtain ⟨b', o', ha', hc, hw⟩ := h4 j hj
      rw [ha] at ha'
      simp at ha'
      obtain ⟨rfl, rfl⟩ := ha'
      have hb := bounds_u64 hw
      rw [hc]
      simp [wordVals, hj]
      omega
  · obtain ⟨y, hy, rfl⟩ := List.mem_map.1 hx
    obtain ⟨i, hi, rfl⟩ := List.getElem_of_mem hy
    obtain ⟨b', o', ha', hc, hw⟩ := h4 i hi
    have hb := bounds_u64 hw
    omega
theorem open_nums_at {H : Type} {enc : TypeId × Value → H} {w : World} {base : Nat} {spare : Nat → Bool} {held : Bool} {fuel : Nat} {cs : List Value} {x : DataW H × List MemPlace} {t e : TypeId} {k : IntKind}
    (ht : Tryd.prog.underlying t = some (.slice e)) (he : Tryd.prog.underlying e = some (.int k)) (hce : Tryd.prog.cellsOf e = 1)
    (hf : DataW.trod enc Tryd.prog w base spare held fuel t cs = some x) : ∃ v l, cs = [v] ∧ NumsAt w k v l := by
  rcases open_slice1 ht hce hf with ⟨rfl, -⟩ | ⟨a', len', cap', m, n, V, D, Pl, rfl, hb, hl, hm, hmm, -, hi⟩
  · exact ⟨_, [], rfl, none, 0, rfl, Nat.le_refl _, by unfold maxLen; omega, fun _ => rfl, fun i hi => by simp at hi⟩
  · have hml : len' ≤ m := by rw [hmm]; split <;> omega
    have hcell : ∀ i, i < len' → w.cell? (a'.add i) = some (.int k (intOf (V i))) ∧ (Lit.int k (intOf (V i))).wf = true := fun i hil => by
      obtain ⟨h1, h2⟩ := hi i (by omega)
      obtain ⟨z, hz, -, hw⟩ := DataW.trod_int he h2
      injection hz with hz
      rw [hz] at h1 ⊢
      exact ⟨h1, hw⟩
    refine ⟨_, (List.range len').map fun i => intOf (V i), rfl, some a', cap', ?_, ?_, hm, fun h => (by cases h), fun i hi => ?_⟩
    · rw [List.length_map, List.length_range]
    · rw [List.length_map, List.length_range]; exact hl
    · have hil : i < len' := by simpa using hi
      refine ⟨a'.block, a'.off, congrArg some (spot_plain (hcell 0 (by omega)).1), ?_, ?_⟩
      · rw [cell_plain (hcell i hil).1]; simp
      · simpa using (hcell i hil).2
theorem graph_fields : ∃ f0 f1 : Field, Tryd.prog.underlying 25 = some (.struct #[f0, f1]) ∧ oneCellFields Tryd.prog #[f0, f1] = true ∧
    f0.type = 22 ∧ f1.type = 23 :=
  ⟨_, _, Tryd.underlying25, by kernel_rfl, rfl, rfl⟩
set_option maxRecDepth 100000 in
theorem open_graph {H : Type} {enc : TypeId × Value → H} {w : World} {base : Nat} {spare : Nat → Bool} {held : Bool} {r : Reach} {b0 : Nat} {v : Value} {d : DataW H} {p : List MemPlace}
    (hv : Value.okWide Tryd.prog w r b0 25 v) (h : DataW.Trod enc Tryd.prog w base spare held 25 v d p) :
    ∃ (kv gv : Value) (ks : List Int) (ls : List Nat), v = .agg #[kv, gv] ∧ NumsAt w .i64 kv ks ∧ WordsAt w gv ls ∧ ∀ x, x ∈ ls → x < 18446744073709551616 := by
  obtain ⟨f0, f1, hs, hone, t0, t1⟩ := graph_fields
  obtain ⟨cs, rfl, hsz⟩ := okWide_struct hs hv
  have hC : Tryd.prog.cellsOf 25 = 2 := by kernel_rfl
  obtain ⟨l⟩ := cs
  match l, hsz.trans hC with
  | [c0, c1], _ =>
    obtain ⟨fuel, hf⟩ := h
    obtain ⟨xs, n, _, -, -, hlen, hg⟩ := DataW.trod_struct hs hf
    match xs, hlen with
    | [y0, y1], _ =>
      obtain ⟨o0, k0⟩ := hone_of hone 0 f0 rfl
      rw [t0] at k0
      obtain ⟨o1, k1⟩ := hone_of hone 1 f1 rfl
      rw [t1] at k1
      have g0 := hg 0 f0 rfl
      have g1 := hg 1 f1 rfl
      simp [Value.cells, o0, t0, k0] at g0
      simp [Value.cells, o1, t1, k1] at g1
      obtain ⟨v0, l0, e0, n0⟩ := open_nums_at Tryd.underlying22 Tryd.underlying3 (by kernel_rfl) g0
      obtain ⟨v1, l1, e1, n1⟩ := open_nums_at Tryd.underlying23 Tryd.underlying38 (by kernel_rfl) g1
      simp at e0 e1
      subst e0 e1
      obtain ⟨ls, w1, w2⟩ := words_of_nums n1
      exact ⟨c0, c1, l0, ls, rfl, n0, w1, w2⟩
end Go.Proofs.YtaillinlbbhdkaaDoor
