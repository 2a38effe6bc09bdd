/- Words in memory; words as bytes; the document's of both. Words as bytes: the program's and the document's; the document's of bytes as words. pack.Words: words as bytes. -/
import Derived.Test.YtobajnodckiohaaDoorPackUnw
import Derived.Laws.MakeOwn
namespace Go.Proofs.YtobajnodckiohaaDoor
open Go.RowKit
set_option linter.unusedVariables false
theorem WordsAt.take {w : World} {a : Option Addr} {n cap : Nat} {l : List Nat} (h : WordsAt w (.slice a n cap) l) (k : Nat) (hk : k ≤ l.length) : WordsAt w (.slice a k cap) (l.take k) := by
  obtain ⟨a', cap', hv, h1, h2, h3, h4⟩ := h
  injection hv with e1 e2 e3
  subst e1 e3
  have hlen : (l.take k).length = k := by rw [List.length_take]; omega
  refine ⟨a, cap, by rw [hlen], by omega, h2, ?_, h4⟩
  rcases h3 with h3 | ⟨b, o, ha, hc⟩
  · have : l = [] := by simpa [wordVals] using h3
    subst this; exact Or.inl (by simp [wordVals])
  · refine Or.inr ⟨b, o, ha, fun j hj => ?_⟩
    rw [wordVals_length, hlen] at hj
    rw [hc j (by rw [wordVals_length]; omega)]
    unfold wordVals
    rw [List.getElem?_map, List.getElem?_map, List.getElem?_take, if_pos hj]
theorem nums_words {w : World} {v : Value} {l : List Int} (h : NumsAt w .u64 v l) : ∃ m : List Nat, WordsAt w v m ∧ SmallW m := by
  obtain ⟨a, cap, hv, h1, h2, h3, h4⟩ := h
  have hb : ∀ i (hi : i < l.length), 0 ≤ l[i] ∧ l[i] < 18446744073709551616 := fun i hi => by
    obtain ⟨b, o, -, -, hw⟩ := h4 i hi
    have := bounds_u64 hw
    omega
  refine ⟨l.map Int.toNat, ⟨a, cap, by rw [List.length_map]; exact hv, by rw [List.length_map]; exact h1, h2, ?_, h3⟩, fun x hx => ?_⟩
  · by_cases hl : l.length = 0
    · left
      have : l = [] := List.eq_nil_of_length_eq_zero hl
      subst this; rfl
    · obtain ⟨b, o, ha, -, -⟩ := h4 0 (by omega)
      refine Or.inr ⟨b, o, ha, fun j hj => ?_⟩
      rw [wordVals_length, List.length_map] at hj
      obtain ⟨b', o', ha', hc, -⟩ := h4 j hj
      rw [ha] at ha'
      injection ha' with e
      injection e with e1 e2
      subst e1 e2
      rw [hc]
      have := (hb j hj).1
      simp [wordVals, hj]
      omega
  · obtain ⟨y, hy, rfl⟩ := List.mem_map.1 hx
    obtain ⟨i, hi, rfl⟩ := List.getElem_of_mem hy
    have := hb i hi
    omega
/-- words as bytes -/
def wordsL (l : List Nat) : List UInt8 := l.flatMap fun x => leBytes x 8
theorem wordsL_len (l : List Nat) : (wordsL l).length = 8 * l.length := by
  unfold wordsL
  induction l with
  | nil => rfl
  | cons x l ih => rw [List.flatMap_cons, List.length_append, leBytes_len, ih, List.length_cons]; omega
theorem wordsL_snoc (l : List Nat) (k : Nat) (h : k < l.length) : wordsL (l.take (k + 1)) = wordsL (l.take k) ++ leBytes l[k] 8 := by
  unfold wordsL
  rw [List.take_succ_eq_append_getElem h, List.flatMap_append]; simp
theorem leVal_le (x k : Nat) : leVal (leBytes x k) = x % 256 ^ k := by
  induction k with
  | zero => simp [leBytes, leVal, Nat.mod_one]
  | succ k ih =>
    rw [leBytes, leVal_snoc, ih, leBytes_len, Nat.pow_succ, Nat.mod_mul, Nat.pow_mul]
    simp
    rw [Nat.mul_comm]
theorem wordAt_words (l : List Nat) (i : Nat) (h : i < l.length) (hs : SmallW l) : wordAt (wordsL l) i = l[i] := by
  have e : ((wordsL l).drop (8 * i)).take 8 = leBytes l[i] 8 := by
    have h1 : l = l.take i ++ (l[i] :: l.drop (i + 1)) := by rw [← List.drop_eq_getElem_cons h, List.take_append_drop]
    have h2 : wordsL (l.take i ++ (l[i] :: l.drop (i + 1))) = wordsL (l.take i) ++ (leBytes l[i] 8 ++ wordsL (l.drop (i + 1))) := by unfold wordsL; rw [List.flatMap_append, List.flatMap_cons]
    rw [← h1] at h2
    have h3 : (wordsL (l.take i)).length = 8 * i := by rw [wordsL_len, List.length_take]; omega
    rw [h2, ← h3, List.drop_left]
    have h4 := leBytes_len l[i] 8
    conv => lhs; arg 1; rw [← h4]
    rw [List.take_left]
  unfold wordAt
  rw [e, leVal_le]
  exact Nat.mod_eq_of_lt (hs _ (List.getElem_mem h))
theorem wordsOf_words (l : List Nat) (hs : SmallW l) : wordsOf (wordsL l) l.length = l := by
  apply List.ext_getElem
  · simp [wordsOf]
  · intro i h1 h2
    simp [wordsOf, wordAt_words l i h2 hs]
end Go.Proofs.YtobajnodckiohaaDoor
namespace Go.Proofs.YtobajnodckiohaaDoor
open Go.RowKit
set_option linter.unusedVariables false
theorem rg_drop {w : World} {a : Option Addr} {n cap : Nat} {L : List UInt8} (h : BytesAt w (.slice a n cap) L) (k : Nat) (hk : k < L.length) : ∃ b o, a = some ⟨b, o, none⟩ ∧ BytesAt w (.slice (some ⟨b, o + k, none⟩) (L.length - k) (cap - k)) (L.drop k) := by
  obtain ⟨a', cap', hv, h1, h2, h3, h4⟩ := h
  injection hv with e1 e2 e3
  subst e1 e3
  rcases h3 with h3 | ⟨b, o, rfl, hc⟩
  · have : L = [] := by simpa [Lib.byteCells] using h3
    subst this; simp at hk
  · refine ⟨b, o, rfl, some ⟨b, o + k, none⟩, cap - k, by rw [List.length_drop], by rw [List.length_drop]; omega, by omega, Or.inr ⟨b, o + k, rfl, fun j hj => ?_⟩, fun h => by cases h⟩
    rw [Lib.byteCells_length, List.length_drop] at hj
    rw [Nat.add_assoc, hc (k + j) (by rw [Lib.byteCells_length]; omega)]
    unfold Lib.byteCells
    rw [List.getElem?_map, List.getElem?_map, List.getElem?_drop]
theorem getN8_drop (L : List UInt8) (k : Nat) (h : 8 * k + 8 ≤ L.length) : getN (L.drop (8 * k)) 8 = wordAt L k := by
  have hc : clip8 8 = 8 := by decide
  unfold getN wordAt
  rw [hc, if_pos (by rw [List.length_drop]; omega)]
end Go.Proofs.YtobajnodckiohaaDoor
namespace Go.Proofs.YtobajnodckiohaaDoor
open Go.RowKit
set_option linter.unusedVariables false
theorem byte_at (x j : Nat) : (x : Int) / 2 ^ (8 * j) % 256 = ((UInt8.ofNat (x / 256 ^ j % 256)).toNat : Int) := by
  have e1 : (2 : Int) ^ (8 * j) = ((256 ^ j : Nat) : Int) := by
    rw [Int.pow_mul, Int.natCast_pow]; rfl
  rw [e1, ← Int.natCast_ediv]
  have e2 : (UInt8.ofNat (x / 256 ^ j % 256)).toNat = x / 256 ^ j % 256 := by simp
  rw [e2]
  omega
end Go.Proofs.YtobajnodckiohaaDoor
