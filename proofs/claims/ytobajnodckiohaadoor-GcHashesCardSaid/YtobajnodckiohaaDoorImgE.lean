/- Bytes that are no image are not read. An image with one byte changed is none: the plain law. -/
import Derived.Test.YtobajnodckiohaaDoorImgC
namespace Go.Proofs.YtobajnodckiohaaDoor
open Go.RowKit
set_option linter.unusedVariables false
end Go.Proofs.YtobajnodckiohaaDoor
namespace Go.Proofs.YtobajnodckiohaaDoor
open Go.RowKit
set_option linter.unusedVariables false
theorem leVal_inj : ∀ {l m : List UInt8}, l.length = m.length → leVal l = leVal m → l = m := by
  intro l
  induction l with
  | nil => intro m h _; cases m with
    | nil => rfl
    | cons _ _ => simp at h
  | cons c l ih =>
    intro m h hv
    cases m with
    | nil => simp at h
    | cons d m =>
      unfold leVal at hv
      have hc := c.toNat_lt; have hd := d.toNat_lt
      have e1 : c.toNat = d.toNat := by omega
      have e2 : leVal l = leVal m := by omega
      rw [UInt8.toNat_inj.1 e1, ih (by simpa using h) e2]
theorem nats_set (l : List UInt8) (i : Nat) (c : UInt8) (hi : i < l.length) : nats (l.set i c) = (nats (l.take i)) ++ c.toNat :: nats (l.drop (i + 1)) := by
  rw [List.set_eq_take_append_cons_drop, if_pos hi]
  simp [nats]
theorem nats_split (l : List UInt8) (i : Nat) (hi : i < l.length) : nats l = (nats (l.take i)) ++ (l[i]).toNat :: nats (l.drop (i + 1)) := by
  have h : l = l.take i ++ l[i] :: l.drop (i + 1) := by rw [← List.drop_eq_getElem_cons hi, List.take_append_drop]
  conv => lhs; rw [h]
  simp only [nats, List.map_append, List.map_cons]
theorem crc_set (l : List UInt8) (i : Nat) (c : UInt8) (hi : i < l.length) (hne : l[i] ≠ c) : crc (nats (l.set i c)) ≠ crc (nats l) := by
  have hlt : ∀ m : List UInt8, ∀ e ∈ nats m, e < 256 := fun m e he => by
    obtain ⟨x, _, rfl⟩ := List.mem_map.1 he
    exact x.toNat_lt
  rw [nats_set l i c hi, nats_split l i hi]
  intro e
  unfold crc at e
  have h := crcFrom_change (x := 4294967295) (a := nats (l.take i)) (b := nats (l.drop (i + 1))) (c := c.toNat) (d := (l[i]).toNat) (by omega) (hlt _) (hlt _) c.toNat_lt (l[i]).toNat_lt (fun h => hne (UInt8.toNat_inj.1 h).symm)
  exact h (by
    have := congrArg (fun x => x ^^^ 4294967295) e
    simpa [Nat.xor_assoc] using this)
theorem prefix_take {L : List UInt8} (h : Lib.hasPrefix L headL = true) : L.take 8 = headL := by
  unfold Lib.hasPrefix at h
  have h2 := List.isPrefixOf_iff_prefix.1 h
  obtain ⟨t, ht⟩ := h2
  rw [← ht]
  exact List.take_left' (l₁ := headL) rfl
theorem changed_unfit (M : Nat → Nat) (free root i : Nat) (c : UInt8) (hi : i < (imgL M free root).length) (hne : (imgL M free root)[i] ≠ c) : ¬ Fits ((imgL M free root).set i c) := by
  rintro ⟨hp, hs⟩
  have hl := imgL_len M free root
  have hbl := bodyL_len M free root
  rw [List.length_set, hl] at hs
  rw [show 36 + 8 * (free - 2) - 4 = (bodyL M free root).length by omega] at hs
  obtain ⟨B, hB⟩ : ∃ B, bodyL M free root = B := ⟨_, rfl⟩
  have hZ := crc_lt32 B
  have himg : imgL M free root = B ++ leBytes (crc (nats B)) 4 := by unfold imgL; rw [hB]
  rw [hB] at hs hbl
  simp only [himg] at hi hne hs hp
  have hll := leBytes_len (crc (nats B)) 4
  rw [List.length_append, hll] at hi
  by_cases h8 : i < 8
  · have ht := prefix_take hp
    have hb8 : B.take 8 = headL := by rw [← hB]; unfold bodyL; exact List.take_left' (l₁ := headL) rfl
    have e1 : ((B ++ leBytes (crc (nats B)) 4).set i c)[i]? = some c := List.getElem?_set_self (by rw [List.length_append]; omega)
    have e2 : (((B ++ leBytes (crc (nats B)) 4).set i c).take 8)[i]? = some c := by rw [List.getElem?_take, if_pos h8]; exact e1
    rw [ht, ← hb8, List.getElem?_take, if_pos h8] at e2
    rw [List.getElem_append_left (by omega)] at hne
    exact hne (by rw [List.getElem?_eq_getElem (by omega)] at e2; exact Option.some.inj e2)
  · by_cases hb : i < B.length
    · rw [List.set_append_left _ _ hb] at hs
      rw [List.take_left' (by rw [List.length_set]), List.drop_left' (by rw [List.length_set])] at hs
      rw [List.getElem_append_left hb] at hne
      have hg : getN (leBytes (crc (nats B)) 4) 4 = crc (nats B) := by
        unfold getN
        rw [hll, if_pos (by decide), show clip8 4 = 4 by decide, List.take_of_length_le (by omega), leVal_le]
        exact Nat.mod_eq_of_lt (by omega)
      rw [hg] at hs
      exact crc_set B i c hb hne hs.symm
    · rw [List.set_append_right _ _ (by omega)] at hs
      rw [List.take_left' rfl, List.drop_left' rfl] at hs
      rw [List.getElem_append_right (by omega)] at hne
      have hg : getN ((leBytes (crc (nats B)) 4).set (i - B.length) c) 4 = leVal ((leBytes (crc (nats B)) 4).set (i - B.length) c) := by
        unfold getN
        rw [List.length_set, hll, if_pos (by decide), show clip8 4 = 4 by decide, List.take_of_length_le (by rw [List.length_set]; omega)]
      have hv : leVal (leBytes (crc (nats B)) 4) = crc (nats B) := by rw [leVal_le]; exact Nat.mod_eq_of_lt (by omega)
      have hs2 := (hg.symm.trans hs).trans hv.symm
      have hs' := leVal_inj (by rw [List.length_set]) hs2
      have e1 : ((leBytes (crc (nats B)) 4).set (i - B.length) c)[i - B.length]? = some c := List.getElem?_set_self (by omega)
      rw [hs', List.getElem?_eq_getElem (by omega)] at e1
      exact hne (Option.some.inj e1)
end Go.Proofs.YtobajnodckiohaaDoor
