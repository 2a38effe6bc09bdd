/- Sets of bits: another one like it; are they alike. Sets of bits: are they alike. -/
import Derived.Test.YtibopjjicfiimaaGreatDoorPackMore
import Derived.Deep.RegionWith
namespace Go.Proofs.YtibopjjicfiimaaGreatDoor
open Go.RowKit
theorem row_of_owns_nn {w : World} {B n : Nat} {e : TypeId} {v : Value} {xs : List Value} (h : w.ownsRow B e 1 v n xs) (hne : v ≠ .slice none 0 0) :
    ∃ g cap f, v = .slice (some ⟨g, 0, none⟩) n cap ∧ B ≤ g ∧ n ≤ cap ∧ cap ≤ maxLen ∧ w.rowIs g e cap f ∧ ∀ i u, xs[i]? = some u → f i = u := by
  obtain ⟨hl, h⟩ := h
  rcases h with ⟨hv, -⟩ | ⟨g, cap, cur, hv, hB, hg, hn, hm, hs, ht⟩
  · exact absurd hv hne
  · refine ⟨g, cap, fun i => cur[i]?.getD .nilIface, hv, hB, hn, hm, ⟨cur, hg, by omega, fun i hi => ?_⟩, fun i u hu => ?_⟩
    · have : i < cur.size := by omega
      simp [this]
    · have hi : i < xs.length := (List.getElem?_eq_some_iff.1 hu).1
      have : cur[i]? = xs[i]? := by rw [← ht, List.getElem?_take, if_pos (by omega)]; simp
      show (cur[i]?).getD .nilIface = u
      rw [this, hu]; rfl
theorem add_plain (g j : Nat) : (⟨g, 0, none⟩ : Addr).add j = ⟨g, j, none⟩ := by
  unfold Addr.add
  split
  · rename_i h0; subst h0; rfl
  · simp
end Go.Proofs.YtibopjjicfiimaaGreatDoor
namespace Go.Proofs.YtibopjjicfiimaaGreatDoor
open Go.RowKit
theorem NumsAt.get {w : World} {k : IntKind} {v : Value} {l : List Int} (h : NumsAt w k v l) : ∃ a cap, v = .slice a l.length cap ∧ l.length ≤ cap ∧ cap ≤ maxLen ∧ (a = none → cap = 0) ∧
  ∀ i (hi : i < l.length), ∃ b o, a = some ⟨b, o, none⟩ ∧ b < w.heap.size ∧ w.cell? ⟨b, o + i, none⟩ = some (.int k l[i]) ∧ (Lit.int k l[i]).wf = true := by
  obtain ⟨a, cap, hv, h1, h2, h3, h4⟩ := h
  refine ⟨a, cap, hv, h1, h2, h3, fun i hi => ?_⟩
  obtain ⟨b, o, ha, hc, hw⟩ := h4 i hi
  exact ⟨b, o, ha, lt_of_cell hc, hc, hw⟩
theorem take_all {l m : List Int} (hlen : l.length = m.length) (h : ∀ i (h1 : i < l.length) (h2 : i < m.length), l[i] = m[i]) : l = m := List.ext_getElem hlen h
theorem word_ext {x y : Nat} (hx : x < 18446744073709551616) (hy : y < 18446744073709551616) (h : ∀ j, j < 64 → x.testBit j = y.testBit j) : x = y := by
  apply Nat.eq_of_testBit_eq
  intro j
  by_cases hj : j < 64
  · exact h j hj
  · have p : (18446744073709551616 : Nat) ≤ 2 ^ j := Nat.pow_le_pow_right (n := 2) (by omega) (show 64 ≤ j by omega)
    rw [Nat.testBit_lt_two_pow (by omega), Nat.testBit_lt_two_pow (by omega)]
theorem words_same {n : Nat} {S T : Nat → Bool} {ws vs : Nat → Nat}
    (hS : ∀ i, i < (n + 63) / 64 → ws i < 18446744073709551616 ∧ ∀ j, j < 64 → (ws i).testBit j = S (64 * i + j)) (hT : ∀ i, i < (n + 63) / 64 → vs i < 18446744073709551616 ∧ ∀ j, j < 64 → (vs i).testBit j = T (64 * i + j))
    (h1 : ∀ k, n ≤ k → S k = false) (h2 : ∀ k, n ≤ k → T k = false) :
    (((List.range ((n + 63) / 64)).map fun i => (ws i : Int)) == ((List.range ((n + 63) / 64)).map fun i => (vs i : Int))) = true ↔ S = T := by
  rw [beq_iff_eq]
  constructor
  · intro h
    funext k
    by_cases hk : k < n
    · have hq : k / 64 < (n + 63) / 64 := by omega
      have := congrArg (·[k / 64]?) h
      simp [hq] at this
      have e1 := (hS (k / 64) hq).2 (k % 64) (by omega)
      have e2 := (hT (k / 64) hq).2 (k % 64) (by omega)
      rw [Nat.div_add_mod] at e1 e2
      rw [← e1, ← e2]
      congr 1
      omega
    · rw [h1 k (by omega), h2 k (by omega)]
  · intro h
    subst h
    apply List.map_congr_left
    intro i hi
    have hi' : i < (n + 63) / 64 := by simpa using hi
    have : ws i = vs i := word_ext (hS i hi').1 (hT i hi').1 fun j hj => by rw [(hS i hi').2 j hj, (hT i hi').2 j hj]
    rw [this]
end Go.Proofs.YtibopjjicfiimaaGreatDoor
