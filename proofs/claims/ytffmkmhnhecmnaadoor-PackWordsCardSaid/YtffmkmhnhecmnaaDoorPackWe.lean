/- Words as bytes: the program's and the document's; the document's of bytes as words. -/
import Derived.Test.YtffmkmhnhecmnaaDoorPackWd
namespace Go.Proofs.YtffmkmhnhecmnaaDoor
open Go.RowKit
set_option linter.unusedVariables false
set_option maxRecDepth 100000 in
set_option maxHeartbeats 1000000 in
theorem rwords_any (v : Value) (l : List Nat) (w : World) (h : WordsAt w v l) (hs : SmallW l) (hl : l.length ≤ 1000) :
    Calls Tryd.prog 24 #[v] w fun e w' => ∃ v', e = .returned v' ∧ OwnsB w' w.heap.size v' (wordsL l) ∧ Below w.heap.size w w' := by
  obtain ⟨a, ca, rfl, a1, a2, a3⟩ := h.get
  have A3 := Lib.hid (show ∀ W, Below w.heap.size w W → ∀ i (hi : i < l.length), ∃ b o, a = some ⟨b, o, none⟩ ∧ W.cell? ⟨b, o + i, none⟩ = some (.int .u64 (l[i] : Int)) from fun W hW i hi => by
    obtain ⟨b, o, h1, h2, h3⟩ := a3 i hi
    exact ⟨b, o, h1, (hW.cell (p := ⟨b, o + i, none⟩) h2).trans h3⟩)
  have HS := Lib.hid hs
  unfold maxLen at a2
  clear a3 h hs
  go_enter Tryd.func24, Tryd.ntmps24
  go_wp2_with fail
  go_loopg [3, 4] l.length (fun gg s3 s4 wr => ∃ i : Nat, gg = l.length - i ∧ i ≤ l.length ∧ s4 = .int .i64 (i : Int) ∧ OwnsB wr w.heap.size s3 (wordsL (l.take i)) ∧ Below w.heap.size w wr)
  case atStart => exact ⟨0, rfl, by omega, rfl, World.ownsRow_nil _ _ _ _, Below.refl _ _⟩
  case round =>
    obtain ⟨i, hgi, hi, rfl, ho, hg⟩ := hrel
    have HGI := Lib.hid hgi; have HO := Lib.hid ho; have HG := Lib.hid hg
    have hwl := hg.size
    clear hgi ho hg
    by_cases hlt : i < l.length
    · obtain ⟨c, o, rfl, hc⟩ := A3.out wr HG.out i hlt
      have hlen : (wordsL (l.take i)).length ≤ 100000 := by rw [wordsL_len, List.length_take]; omega
      have hx := HS.out l[i] (List.getElem_mem hlt)
      have HSN := Lib.hid (wordsL_snoc l i hlt)
      generalize l[i] = x at *
      have RP := Lib.hid (rput_any _ (wordsL (l.take i)) x hx 8 wr (bytes_of_owns HO.out) hlen)
      rw [show clip8 8 = 8 by decide] at RP
      clear hx hlen
      go_wp2_with fail
      refine RP.out.mono ?_
      rintro e w2 ⟨v2, rfl, ho2, hg2⟩
      have HO2 := Lib.hid (owns_weak ho2 HSN.out.symm hwl)
      have HG2 := Lib.hid (HG.out.trans (hg2.mono hwl))
      clear ho2 hg2
      go_wp2_with fail
      all_goals (try (exfalso; go_light; omega))
      go_roundg (l.length - (i + 1))
      case measure => rw [HGI.out]; omega
      case rel => exact ⟨i + 1, rfl, by omega, by go_num, HO2.out, HG2.out⟩
    · have ht : l.take i = l := List.take_of_length_le (by omega)
      have ho := HO.out
      rw [ht] at ho
      have HO2 := Lib.hid ho
      clear ho ht
      go_wp2_with fail
      go_ret
      exact ⟨_, rfl, HO2.out, HG.out⟩
theorem rg_drop {w : World} {a : Option Addr} {n cap : Nat} {L : List UInt8} (h : BytesAt w (.slice a n cap) L) (k : Nat) (hk : k < L.length) : ∃ b o, a = some ⟨b, o, none⟩ ∧ BytesAt w (.slice (some ⟨b, o + k, none⟩) (L.length - k) (cap - k)) (L.drop k) := by
  obtain ⟨a', cap', hv, h1, h2, h3, h4⟩ := h
  injection hv with e1 e2 e3
  subst e1 e3
  rcases h3 with h3 | ⟨b, o, rfl, hc⟩
  · have : L = [] := by simpa [Lib.byteCells] using h3
    subst this; simp at hk
  · refine ⟨b, o, rfl, some ⟨b, o + k, none⟩, cap - k, by rw [List.length_drop], by rw [List.length_drop]; omega, by omega, Or.inr ⟨b, o + k, rfl, fun j hj => ?_⟩, fun h => by cases h⟩
    rw [Lib.byteCells_length, List.length_drop] at hj
    rw [Nat.add_assoc, hc (k + j) (by rw [Lib.byteCells_length]; omega)]
    unfold Lib.byteCells
    rw [List.getElem?_map, List.getElem?_map, List.getElem?_drop]
theorem getN8_drop (L : List UInt8) (k : Nat) (h : 8 * k + 8 ≤ L.length) : getN (L.drop (8 * k)) 8 = wordAt L k := by
  have hc : clip8 8 = 8 := by decide
  unfold getN wordAt
  rw [hc, if_pos (by rw [List.length_drop]; omega)]
theorem runwords_no (v : Value) (L : List UInt8) (w : World) (h : BytesAt w v L) (h8 : L.length % 8 ≠ 0) :
    Calls Tryd.prog 26 #[v] w fun e w' => e = .returned (.tuple #[.slice none 0 0, .bool false]) ∧ w' = w := by
  obtain ⟨a, cap, rfl, h1, h2, -, -⟩ := h
  unfold maxLen at h2
  have q : ¬ (L.length : Int) % 8 = 0 := by omega
  clear h8
  go_enter Tryd.func26, Tryd.ntmps26
  go_wp2_with fail
  exact bodyPost_ret (v := .tuple #[.slice none 0 0, .bool false]) (by simp [results, Tryd.results26, go_sem]) rfl ⟨rfl, rfl⟩
set_option maxRecDepth 100000 in
set_option maxHeartbeats 1000000 in
theorem runwords_yes (v : Value) (L : List UInt8) (m : Nat) (w : World) (h : BytesAt w v L) (h8 : L.length = 8 * m) (hm : m ≤ 100000) :
    Calls Tryd.prog 26 #[v] w fun e w' => ∃ u, e = .returned (.tuple #[u, .bool true]) ∧ w'.ownsRow w.heap.size 35 1 u m (wordVals (wordsOf L m)) ∧ Below w.heap.size w w' := by
  obtain ⟨i0, hi, hz0, hz1, hz2⟩ := info_parts u64Info
  have H := Lib.hid h
  obtain ⟨a, cap, rfl, h1, h2, -, -⟩ := h
  have H8 := Lib.hid h8
  unfold maxLen at h2
  have q : (8 * (m : Int)) % 8 = 0 := by omega
  rw [h8] at h1
  rw [show (Value.slice a L.length cap) = .slice a (8 * m) cap by rw [h8]] at H ⊢
  clear h8
  go_enter Tryd.func26, Tryd.ntmps26
  go_wp2_with fail
  go_loopg [4, 5] m (fun gg s4 s5 wr => ∃ i : Nat, gg = m - i ∧ i ≤ m ∧ s5 = .int .i64 ((8 * i : Nat) : Int) ∧ wr.ownsRow w.heap.size 35 1 s4 i (wordVals (wordsOf L i)) ∧ Below w.heap.size w wr)
  case atStart => exact ⟨0, rfl, by omega, rfl, World.ownsRow_nil _ _ _ _, Below.refl _ _⟩
  case round =>
    obtain ⟨i, hgi, hi2, rfl, ho, hg⟩ := hrel
    have HGI := Lib.hid hgi; have HO := Lib.hid ho; have HG := Lib.hid hg
    have hwl := hg.size
    have hi8 : ((8 * i : Nat) : Int) = 8 * (i : Int) := by omega
    clear hgi ho hg
    by_cases hlt : i < m
    · obtain ⟨b, o, rfl, hb⟩ := rg_drop (H.out.later HG.out) (8 * i) (by rw [H8.out]; omega)
      have RG := rget_any _ (L.drop (8 * i)) 8 wr hb
      rw [getN8_drop L i (by rw [H8.out]; omega), decide_eq_true (by rw [show clip8 8 = 8 by decide, List.length_drop, H8.out]; omega), H8.out] at RG
      have RG := Lib.hid RG
      have HW := Lib.hid (show wordVals (wordsOf L (i + 1)) = wordVals (wordsOf L i) ++ [.int .u64 (wordAt L i : Int)] by unfold wordVals wordsOf; rw [List.range_succ, List.map_append, List.map_append]; rfl)
      generalize wordAt L i = x at *
      clear hb
      go_wp2_with fail
      all_goals (try (exfalso; go_light; omega))
      refine RG.out.mono ?_
      rintro e w2 ⟨rfl, hw2⟩
      subst hw2
      go_wp2_with (at_builtin; refine wpList_append_own _ rfl _ _ 46 rfl w.heap.size 35 i0 (.int .u64 0) 1 8 Tryd.underlying46 hi hz0 hz1 hz2 rfl (by decide) _ _ _ rfl (HO.out.alloc _) ⟨_, 0, none⟩ 1 1 [.int .u64 (x : Int)] rfl rfl (cell_one_new _ _ _) ?c2 ?c3 ?c4 ?c5 ?_)
      case c2 => intro u hu; simp at hu; subst hu; rfl
      case c3 => unfold maxLen; omega
      case c4 => omega
      case c5 => simp; omega
      intro v' w3 hown' hgrow _
      have hb3 : Below w.heap.size w w3 := (HG.out.alloc hwl _).grown hgrow (by simp; omega) (fun q hq => (HO.out.lt q hq).1)
      rw [← HW.out] at hown'
      have HO3 := Lib.hid hown'; have HB3 := Lib.hid hb3
      clear hown' hgrow hb3
      go_wp2_with fail
      all_goals (try (exfalso; go_light; omega))
      go_roundg (m - (i + 1))
      case measure => rw [HGI.out]; omega
      case rel => exact ⟨i + 1, rfl, by omega, by congr 1, HO3.out, HB3.out⟩
    · have him : i = m := by omega
      subst him
      go_wp2_with fail
      all_goals (try (exfalso; go_light; omega))
      refine bodyPost_ret (v := .tuple #[u4, .bool true]) (by simp [results, Tryd.results26, go_sem]) rfl ⟨_, rfl, HO.out, HG.out⟩
end Go.Proofs.YtffmkmhnhecmnaaDoor
