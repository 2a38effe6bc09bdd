/- Sets of bits: another one like it; are they alike. -/
import Derived.Test.YtokgnedbbnnecaaDoorPackMore
import Derived.Deep.RegionWith
namespace Go.Proofs.YtokgnedbbnnecaaDoor
open Go.RowKit
theorem row_of_owns_nn {w : World} {B n : Nat} {e : TypeId} {v : Value} {xs : List Value} (h : w.ownsRow B e 1 v n xs) (hne : v ≠ .slice none 0 0) :
    ∃ g cap f, v = .slice (some ⟨g, 0, none⟩) n cap ∧ B ≤ g ∧ n ≤ cap ∧ cap ≤ maxLen ∧ w.rowIs g e cap f ∧ ∀ i u, xs[i]? = some u → f i = u := by
  obtain ⟨hl, h⟩ := h
  rcases h with ⟨hv, -⟩ | ⟨g, cap, cur, hv, hB, hg, hn, hm, hs, ht⟩
  · exact absurd hv hne
  · refine ⟨g, cap, fun i => cur[i]?.getD .nilIface, hv, hB, hn, hm, ⟨cur, hg, by omega, fun i hi => ?_⟩, fun i u hu => ?_⟩
    · have : i < cur.size := by omega
      simp [this]
    · have hi : i < xs.length := (List.getElem?_eq_some_iff.1 hu).1
      have : cur[i]? = xs[i]? := by rw [← ht, List.getElem?_take, if_pos (by omega)]; simp
      show (cur[i]?).getD .nilIface = u
      rw [this, hu]; rfl
theorem add_plain (g j : Nat) : (⟨g, 0, none⟩ : Addr).add j = ⟨g, j, none⟩ := by
  unfold Addr.add
  split
  · rename_i h0; subst h0; rfl
  · simp
end Go.Proofs.YtokgnedbbnnecaaDoor
