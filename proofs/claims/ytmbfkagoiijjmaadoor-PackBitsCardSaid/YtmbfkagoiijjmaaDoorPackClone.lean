/- Sets of bits: another one like it; are they alike. -/
import Derived.Test.YtmbfkagoiijjmaaDoorPackMore
import Derived.Deep.RegionWith
namespace Go.Proofs.YtmbfkagoiijjmaaDoor
open Go.RowKit
theorem row_of_owns_nn {w : World} {B n : Nat} {e : TypeId} {v : Value} {xs : List Value} (h : w.ownsRow B e 1 v n xs) (hne : v ≠ .slice none 0 0) :
    ∃ g cap f, v = .slice (some ⟨g, 0, none⟩) n cap ∧ B ≤ g ∧ n ≤ cap ∧ cap ≤ maxLen ∧ w.rowIs g e cap f ∧ ∀ i u, xs[i]? = some u → f i = u := by
  obtain ⟨hl, h⟩ := h
  rcases h with ⟨hv, -⟩ | ⟨g, cap, cur, hv, hB, hg, hn, hm, hs, ht⟩
  · exact absurd hv hne
  · refine ⟨g, cap, fun i => cur[i]?.getD .nilIface, hv, hB, hn, hm, ⟨cur, hg, by omega, fun i hi => ?_⟩, fun i u hu => ?_⟩
    · have : i < cur.size := by omega
      simp [this]
    · have hi : i < xs.length := (List.getElem?_eq_some_iff.1 hu).1
      have : cur[i]? = xs[i]? := by rw [← ht, List.getElem?_take, if_pos (by omega)]; simp
      show (cur[i]?).getD .nilIface = u
      rw [this, hu]; rfl
theorem add_plain (g j : Nat) : (⟨g, 0, none⟩ : Addr).add j = ⟨g, j, none⟩ := by
  unfold Addr.add
  split
  · rename_i h0; subst h0; rfl
  · simp
set_option maxRecDepth 100000 in
theorem cloneU_any (g n cap : Nat) (xs : List Int) (w : World) (hx : xs.length = n) (hn : n ≤ 1000000) (hc : ∀ j u, (xs.map (Value.int .u64))[j]? = some u → w.cell? ⟨g, j, none⟩ = some u) :
    Calls Tryd.prog 47 #[.slice (some ⟨g, 0, none⟩) n cap] w fun e w' => ∃ g' c' f, e = .returned (.slice (some ⟨g', 0, none⟩) n c') ∧ w.heap.size ≤ g' ∧ n ≤ c' ∧ c' ≤ maxLen ∧ w'.rowIs g' 35 c' f ∧ (∀ i u, (xs.map (Value.int .u64))[i]? = some u → f i = u) ∧ Below w.heap.size w w' := by
  obtain ⟨i0, hi, hz0, hz1, hz2⟩ := info_parts wordInfo
  have ho : (w.alloc (.cells #[] 35)).ownsRow w.heap.size 35 1 (.slice (some ⟨w.heap.size, 0, none⟩) 0 0) 0 [] := World.ownsRow_lit w #[] 0 (Nat.le_refl _) (by decide) rfl
  have h4 : ∀ j u, (xs.map (Value.int .u64))[j]? = some u → (w.alloc (.cells #[] 35)).cell? ((⟨g, 0, none⟩ : Addr).add j) = some u := by
    intro j u hj
    have h := hc j u hj
    have hlt := lt_of_cell h
    rw [add_plain]
    rw [World.cell?_alloc_past _ g j hlt]
    exact h
  have H4 := Lib.hid h4
  clear hc h4
  have q46 : ∀ (w : World) (a : Option Addr) (n c n' c' : Nat), (binOp .eql 46 (.slice a n c) (.slice none n' c')).run Tryd.prog w = .ok (.bool a.isNone) w := fun w a n c n' c' => Lib.run_eql_slice_nil w _ _ a n c n' c' Tryd.underlying46
  go_enter Tryd.func47, Tryd.ntmps47
  go_wp2_with (at_builtin; refine wpList_append_own _ rfl _ _ 46 rfl w.heap.size 35 i0 (.int .u64 0) 1 8 Tryd.underlying46 hi hz0 hz1 hz2 rfl (by decide) _ _ _ rfl ho ⟨g, 0, none⟩ n cap (xs.map (Value.int .u64)) rfl (by rw [List.length_map]; omega) H4.out ?c2 ?c3 ?c4 ?c5 ?_)
  case c2 => intro u hu; simp only [List.mem_map] at hu; obtain ⟨b, _, rfl⟩ := hu; rfl
  case c3 => unfold maxLen; omega
  case c4 => omega
  case c5 => simp
  intro v' w1 hown' hgrow hnn
  have ho1 : w1.ownsRow w.heap.size 35 1 v' n (xs.map (Value.int .u64)) := by simpa using hown'
  have hne : v' ≠ .slice none 0 0 := fun h => hnn h
  have hb1 := ((Below.refl w.heap.size w).alloc (Nat.le_refl _) (.cells #[] 35)).grown hgrow (by simp) (fun q hq => (ho.lt q hq).1)
  have HO := Lib.hid ho1; have HB := Lib.hid hb1; have HN := Lib.hid hne; clear hown' hgrow ho1 hb1 hnn hne
  go_wp2_with fail
  go_ret
  obtain ⟨g', c', f, rfl, h1, h2, h3, h4, h5⟩ := row_of_owns_nn HO.out HN.out
  exact ⟨g', c', f, rfl, h1, h2, h3, h4, h5, HB.out⟩
set_option maxRecDepth 100000 in
theorem clone_bits (B b n : Nat) (S : Nat → Bool) (w : World) (h : BitsAt w B b n S) :
    Calls Tryd.prog 31 #[.pointer (some ⟨b, 0, none⟩)] w fun e w' => ∃ b', e = .returned (.pointer (some ⟨b', 0, none⟩)) ∧ BitsAt w' w.heap.size b' n S ∧ Below w.heap.size w w' := by
  obtain ⟨g, cap, m, ws, f, h1, h2, h3, h4, h5, h6, h7, h8, h9, h10, h11⟩ := h
  have hlb : b < w.heap.size := (Array.getElem?_eq_some_iff.1 h5).1
  have hc0 : w.cell? ⟨b, 0, none⟩ = some (.int .i64 (n : Int)) := by simp [World.cell?, h5]
  have hc1 : w.cell? ⟨b, 1, none⟩ = some (.slice (some ⟨g, 0, none⟩) ((n + 63) / 64) cap) := by simp [World.cell?, h5]
  have K := Lib.hid (fun W (hW : Below w.heap.size w W) => cloneU_any g ((n + 63) / 64) cap ((List.range ((n + 63) / 64)).map fun i => (ws i : Int)) W (by simp) (by omega) (fun j u hj => by
    have hj' : j < (n + 63) / 64 := by simpa using (List.getElem?_eq_some_iff.1 hj).1
    have hcj : w.cell? ⟨g, j, none⟩ = some (.int .u64 (ws j : Int)) := by rw [h8.cell (by omega), (h10 j hj').1]
    have hWj := (hW.cell (p := ⟨g, j, none⟩) h8.lt).trans hcj
    rw [hWj]
    simpa [hj'] using hj))
  have H10 := Lib.hid (fun i hi => (h10 i hi).2)
  have H11 := Lib.hid h11
  clear h5 h8 h10 h11
  go_enter Tryd.func31, Tryd.ntmps31
  go_wp2_with fail
  go_region_with (go_at_call 47; go_loud (refine (K.out _ ?_).mono ?_; exact (Below.refl _ _).drew; rintro e w1 ⟨g', c', f', rfl, hq1, hq2, hq3, hq4, hq5, hg⟩; have hq0 : w1.cell? ⟨b, 0, none⟩ = some (.int .i64 (n : Int)) := (hg.cell (p := ⟨b, 0, none⟩) hlb).trans hc0; have Q1 := Lib.hid hq1; have Q2 := Lib.hid hq2; have Q3 := Lib.hid hq3; have Q4 := Lib.hid hq4; have Q5 := Lib.hid hq5; have HG := Lib.hid hg; clear hq1 hq2 hq3 hq4 hq5 hg))
  all_goals (
    go_wp2_with fail
    go_ret
    refine ⟨w1.heap.size, rfl, ⟨g', c', c', ws, f', HG.out.size, Q1.out, ?_, h4, heap_alloc_new w1 _, Q2.out, Q3.out, Q4.out.alloc _, Q2.out, fun i hi => ⟨?_, H10.out i hi⟩, H11.out⟩, ?_⟩
    · have := Q4.out.lt; omega
    · exact Q5.out i _ (by simp [hi])
    · exact (Below.refl _ w).drew.trans (HG.out.alloc HG.out.size _))
end Go.Proofs.YtmbfkagoiijjmaaDoor
