/- Lay: both heaps of a graph. Roots: words by places, or as they are. A graph that came in: its kinds and leads. -/
import Derived.Test.YtibopjjicfiimaaGreatDoorLayC
import Derived.Test.YtibopjjicfiimaaGreatDoorPackOpen
import Derived.Deep.CutBlock
import Derived.Deep.RegionWith
namespace Go.Proofs.YtibopjjicfiimaaGreatDoor
open Go.RowKit
set_option linter.unusedVariables false
/-- the kinds as they are taken -/
theorem tmod_bd (z : Int) : -2 ≤ z.tmod 3 ∧ z.tmod 3 ≤ 2 := by
  cases z with
  | ofNat n => show -2 ≤ ((n % 3 : Nat) : Int) ∧ ((n % 3 : Nat) : Int) ≤ 2; omega
  | negSucc n => show -2 ≤ -(((n + 1) % 3 : Nat) : Int) ∧ -(((n + 1) % 3 : Nat) : Int) ≤ 2; omega
theorem kind_bd (z : Int) : 0 ≤ (z.tmod 3 + 3).tmod 3 ∧ (z.tmod 3 + 3).tmod 3 ≤ 2 := by
  have h := tmod_bd z
  obtain ⟨m, hm⟩ := Int.eq_ofNat_of_zero_le (show 0 ≤ z.tmod 3 + 3 by omega)
  rw [hm]
  show 0 ≤ ((m % 3 : Nat) : Int) ∧ ((m % 3 : Nat) : Int) ≤ 2
  omega
/-- a block below the heap's own may change -/
theorem HeapAt.other {w w' : World} {B h N free : Nat} {S : Nat → Bool} {M : Nat → Nat} (H : HeapAt w (B + 1) h N free S M) (hq : ∀ q, q ≠ B → w'.heap[q]? = w.heap[q]?) : HeapAt w' (B + 1) h N free S M := by
  obtain ⟨g, s, h1, h2, h3, h3', h4, h5, h6, h7, h8⟩ := H
  obtain ⟨r, cap, m, ws, f, k1, k2, k3, k4, k5, k6, k7, k8, k9⟩ := h8
  exact ⟨g, s, h1, h2, h3, h3', h4, (hq h (by omega)).trans h5, h6.of_block (hq g (by omega)), h7, r, cap, m, ws, f, k1, k2, k3, k4, (hq s (by omega)).trans k5, k6, k7, k8.of_block (hq r (by omega)), k9⟩
end Go.Proofs.YtibopjjicfiimaaGreatDoor
namespace Go.Proofs.YtibopjjicfiimaaGreatDoor
open Go.RowKit
set_option linter.unusedVariables false
theorem owns_apart {w : World} {B B' e e' s s' n n' : Nat} {v v' : Value} {xs xs' : List Value} (h : w.ownsRow B e s v n xs) (h' : w.ownsRow B' e' s' v' n' xs') (hne : e ≠ e') : v.ownBlock = none ∨ v.ownBlock ≠ v'.ownBlock := by
  rcases h.2 with ⟨hv, -⟩ | ⟨g, cap, cur, hv, -, hg, -⟩
  · rw [hv]; exact Or.inl rfl
  · rcases h'.2 with ⟨hv', -⟩ | ⟨g', cap', cur', hv', -, hg', -⟩
    · rw [hv, hv']; exact Or.inr (by simp [Value.ownBlock])
    · rw [hv, hv']
      refine Or.inr fun e1 => ?_
      simp [Value.ownBlock] at e1
      subst e1
      rw [hg] at hg'
      simp at hg'
      exact hne hg'.2
end Go.Proofs.YtibopjjicfiimaaGreatDoor
namespace Go.Proofs.YtibopjjicfiimaaGreatDoor
open Go.Joins Go.ChangeShapes Go.WideShapes Go.ChangeAt Go.RowKit Go.Deep
theorem words_of_nums {w : World} {v : Value} {l : List Int} (h : NumsAt w .u64 v l) : ∃ ls : List Nat, WordsAt w v ls ∧ ∀ x, x ∈ ls → x < 18446744073709551616 := by
  obtain ⟨a, cap, rfl, h1, h2, h3, h4⟩ := h
  refine ⟨l.map Int.toNat, ⟨a, cap, by rw [List.length_map], by rw [List.length_map]; exact h1, h2, ?_, h3⟩, fun x hx => ?_⟩
  · by_cases h0 : l.length = 0
    · have : l = [] := List.length_eq_zero_iff.1 h0
      subst this
      exact Or.inl rfl
    · obtain ⟨b, o, ha, -, -⟩ := h4 0 (by omega)
      refine Or.inr ⟨b, o, ha, fun j hj => ?_⟩
      rw [wordVals_length, List.length_map] at hj
      obtain ⟨b', o', ha', hc, hw⟩ := h4 j hj
      rw [ha] at ha'
      simp at ha'
      obtain ⟨rfl, rfl⟩ := ha'
      have hb := bounds_u64 hw
      rw [hc]
      simp [wordVals, hj]
      omega
  · obtain ⟨y, hy, rfl⟩ := List.mem_map.1 hx
    obtain ⟨i, hi, rfl⟩ := List.getElem_of_mem hy
    obtain ⟨b', o', ha', hc, hw⟩ := h4 i hi
    have hb := bounds_u64 hw
    omega
theorem open_nums_at {H : Type} {enc : TypeId × Value → H} {w : World} {base : Nat} {spare : Nat → Bool} {held : Bool} {fuel : Nat} {cs : List Value} {x : DataW H × List MemPlace} {t e : TypeId} {k : IntKind}
    (ht : Tryz.prog.underlying t = some (.slice e)) (he : Tryz.prog.underlying e = some (.int k)) (hce : Tryz.prog.cellsOf e = 1)
    (hf : DataW.trod enc Tryz.prog w base spare held fuel t cs = some x) : ∃ v l, cs = [v] ∧ NumsAt w k v l := by
  rcases open_slice1 ht hce hf with ⟨rfl, -⟩ | ⟨a', len', cap', m, n, V, D, Pl, rfl, hb, hl, hm, hmm, -, hi⟩
  · exact ⟨_, [], rfl, none, 0, rfl, Nat.le_refl _, by unfold maxLen; omega, fun _ => rfl, fun i hi => by simp at hi⟩
  · have hml : len' ≤ m := by rw [hmm]; split <;> omega
    have hcell : ∀ i, i < len' → w.cell? (a'.add i) = some (.int k (intOf (V i))) ∧ (Lit.int k (intOf (V i))).wf = true := fun i hil => by
      obtain ⟨h1, h2⟩ := hi i (by omega)
      obtain ⟨z, hz, -, hw⟩ := DataW.trod_int he h2
      injection hz with hz
      rw [hz] at h1 ⊢
      exact ⟨h1, hw⟩
    refine ⟨_, (List.range len').map fun i => intOf (V i), rfl, some a', cap', ?_, ?_, hm, fun h => (by cases h), fun i hi => ?_⟩
    · rw [List.length_map, List.length_range]
    · rw [List.length_map, List.length_range]; exact hl
    · have hil : i < len' := by simpa using hi
      refine ⟨a'.block, a'.off, congrArg some (spot_plain (hcell 0 (by omega)).1), ?_, ?_⟩
      · rw [cell_plain (hcell i hil).1]; simp
      · simpa using (hcell i hil).2
end Go.Proofs.YtibopjjicfiimaaGreatDoor
