/- Words in memory; words as bytes; the document's of both. Words as bytes: the program's and the document's; the document's of bytes as words. pack.Words: words as bytes. -/
import Derived.Test.YtibopjjicfiimaaGreatDoorPackUnw
import Derived.Laws.MakeOwn
namespace Go.Proofs.YtibopjjicfiimaaGreatDoor
open Go.RowKit
set_option linter.unusedVariables false
theorem WordsAt.take {w : World} {a : Option Addr} {n cap : Nat} {l : List Nat} (h : WordsAt w (.slice a n cap) l) (k : Nat) (hk : k ≤ l.length) : WordsAt w (.slice a k cap) (l.take k) := by
  obtain ⟨a', cap', hv, h1, h2, h3, h4⟩ := h
  injection hv with e1 e2 e3
  subst e1 e3
  have hlen : (l.take k).length = k := by rw [List.length_take]; omega
  refine ⟨a, cap, by rw [hlen], by omega, h2, ?_, h4⟩
  rcases h3 with h3 | ⟨b, o, ha, hc⟩
  · have : l = [] := by simpa [wordVals] using h3
    subst this; exact Or.inl (by simp [wordVals])
  · refine Or.inr ⟨b, o, ha, fun j hj => ?_⟩
    rw [wordVals_length, hlen] at hj
    rw [hc j (by rw [wordVals_length]; omega)]
    unfold wordVals
    rw [List.getElem?_map, List.getElem?_map, List.getElem?_take, if_pos hj]
theorem nums_words {w : World} {v : Value} {l : List Int} (h : NumsAt w .u64 v l) : ∃ m : List Nat, WordsAt w v m ∧ SmallW m := by
  obtain ⟨a, cap, hv, h1, h2, h3, h4⟩ := h
  have hb : ∀ i (hi : i < l.length), 0 ≤ l[i] ∧ l[i] < 18446744073709551616 := fun i hi => by
    obtain ⟨b, o, -, -, hw⟩ := h4 i hi
    have := bounds_u64 hw
    omega
  refine ⟨l.map Int.toNat, ⟨a, cap, by rw [List.length_map]; exact hv, by rw [List.length_map]; exact h1, h2, ?_, h3⟩, fun x hx => ?_⟩
  · by_cases hl : l.length = 0
    · left
      have : l = [] := List.eq_nil_of_length_eq_zero hl
      subst this; rfl
    · obtain ⟨b, o, ha, -, -⟩ := h4 0 (by omega)
      refine Or.inr ⟨b, o, ha, fun j hj => ?_⟩
      rw [wordVals_length, List.length_map] at hj
      obtain ⟨b', o', ha', hc, -⟩ := h4 j hj
      rw [ha] at ha'
      injection ha' with e
      injection e with e1 e2
      subst e1 e2
      rw [hc]
      have := (hb j hj).1
      simp [wordVals, hj]
      omega
  · obtain ⟨y, hy, rfl⟩ := List.mem_map.1 hx
    obtain ⟨i, hi, rfl⟩ := List.getElem_of_mem hy
    have := hb i hi
    omega
/-- words as bytes -/
def wordsL (l : List Nat) : List UInt8 := l.flatMap fun x => leBytes x 8
theorem wordsL_len (l : List Nat) : (wordsL l).length = 8 * l.length := by
  unfold wordsL
  induction l with
  | nil => rfl
  | cons x l ih => rw [List.flatMap_cons, List.length_append, leBytes_len, ih, List.length_cons]; omega
theorem wordsL_snoc (l : List Nat) (k : Nat) (h : k < l.length) : wordsL (l.take (k + 1)) = wordsL (l.take k) ++ leBytes l[k] 8 := by
  unfold wordsL
  rw [List.take_succ_eq_append_getElem h, List.flatMap_append]; simp
theorem leVal_le (x k : Nat) : leVal (leBytes x k) = x % 256 ^ k := by
  induction k with
  | zero => simp [leBytes, leVal, Nat.mod_one]
  | succ k ih =>
    rw [leBytes, leVal_snoc, ih, leBytes_len, Nat.pow_succ, Nat.mod_mul, Nat.pow_mul]
    simp
    rw [Nat.mul_comm]
theorem wordAt_words (l : List Nat) (i : Nat) (h : i < l.length) (hs : SmallW l) : wordAt (wordsL l) i = l[i] := by
  have e : ((wordsL l).drop (8 * i)).take 8 = leBytes l[i] 8 := by
    have h1 : l = l.take i ++ (l[i] :: l.drop (i + 1)) := by rw [← List.drop_eq_getElem_cons h, List.take_append_drop]
    have h2 : wordsL (l.take i ++ (l[i] :: l.drop (i + 1))) = wordsL (l.take i) ++ (leBytes l[i] 8 ++ wordsL (l.drop (i + 1))) := by unfold wordsL; rw [List.flatMap_append, List.flatMap_cons]
    rw [← h1] at h2
    have h3 : (wordsL (l.take i)).length = 8 * i := by rw [wordsL_len, List.length_take]; omega
    rw [h2, ← h3, List.drop_left]
    have h4 := leBytes_len l[i] 8
    conv => lhs; arg 1; rw [← h4]
    rw [List.take_left]
  unfold wordAt
  rw [e, leVal_le]
  exact Nat.mod_eq_of_lt (hs _ (List.getElem_mem h))
theorem wordsOf_words (l : List Nat) (hs : SmallW l) : wordsOf (wordsL l) l.length = l := by
  apply List.ext_getElem
  · simp [wordsOf]
  · intro i h1 h2
    simp [wordsOf, wordAt_words l i h2 hs]
end Go.Proofs.YtibopjjicfiimaaGreatDoor
namespace Go.Proofs.YtibopjjicfiimaaGreatDoor
open Go.RowKit
set_option linter.unusedVariables false
theorem rg_drop {w : World} {a : Option Addr} {n cap : Nat} {L : List UInt8} (h : BytesAt w (.slice a n cap) L) (k : Nat) (hk : k < L.length) : ∃ b o, a = some ⟨b, o, none⟩ ∧ BytesAt w (.slice (some ⟨b, o + k, none⟩) (L.length - k) (cap - k)) (L.drop k) := by
  obtain ⟨a', cap', hv, h1, h2, h3, h4⟩ := h
  injection hv with e1 e2 e3
  subst e1 e3
  rcases h3 with h3 | ⟨b, o, rfl, hc⟩
  · have : L = [] := by simpa [Lib.byteCells] using h3
    subst this; simp at hk
  · refine ⟨b, o, rfl, some ⟨b, o + k, none⟩, cap - k, by rw [List.length_drop], by rw [List.length_drop]; omega, by omega, Or.inr ⟨b, o + k, rfl, fun j hj => ?_⟩, fun h => by cases h⟩
    rw [Lib.byteCells_length, List.length_drop] at hj
    rw [Nat.add_assoc, hc (k + j) (by rw [Lib.byteCells_length]; omega)]
    unfold Lib.byteCells
    rw [List.getElem?_map, List.getElem?_map, List.getElem?_drop]
theorem getN8_drop (L : List UInt8) (k : Nat) (h : 8 * k + 8 ≤ L.length) : getN (L.drop (8 * k)) 8 = wordAt L k := by
  have hc : clip8 8 = 8 := by decide
  unfold getN wordAt
  rw [hc, if_pos (by rw [List.length_drop]; omega)]
end Go.Proofs.YtibopjjicfiimaaGreatDoor
namespace Go.Proofs.YtibopjjicfiimaaGreatDoor
open Go.RowKit
set_option linter.unusedVariables false
theorem byte_at (x j : Nat) : (x : Int) / 2 ^ (8 * j) % 256 = ((UInt8.ofNat (x / 256 ^ j % 256)).toNat : Int) := by
  have e1 : (2 : Int) ^ (8 * j) = ((256 ^ j : Nat) : Int) := by
    rw [Int.pow_mul, Int.natCast_pow]; rfl
  rw [e1, ← Int.natCast_ediv]
  have e2 : (UInt8.ofNat (x / 256 ^ j % 256)).toNat = x / 256 ^ j % 256 := by simp
  rw [e2]
  omega
set_option maxRecDepth 100000 in
set_option maxHeartbeats 1000000 in
theorem words_any (v : Value) (l : List Nat) (w : World) (h : WordsAt w v l) (hs : SmallW l) (hl : l.length ≤ 10000) :
    Calls Tryz.prog 41 #[v] w fun e w' => ∃ v', e = .returned v' ∧ OwnsB w' w.heap.size v' (wordsL l) ∧ Below w.heap.size w w' := by
  obtain ⟨i0, hi, hz0, hz1, hz2⟩ := info_parts byteInfo
  obtain ⟨a, ca, rfl, a1, a2, a3⟩ := h.get
  have A3 := Lib.hid (show ∀ W, Below w.heap.size w W → ∀ i (hi : i < l.length), ∃ b o, a = some ⟨b, o, none⟩ ∧ W.cell? ⟨b, o + i, none⟩ = some (.int .u64 (l[i] : Int)) from fun W hW i hi => by
    obtain ⟨b, o, h1, h2, h3⟩ := a3 i hi
    exact ⟨b, o, h1, (hW.cell (p := ⟨b, o + i, none⟩) h2).trans h3⟩)
  have HS := Lib.hid hs
  unfold maxLen at a2
  clear a3 h hs
  obtain ⟨w0, hmk, ho0, hg0⟩ := run_make_own (P := Tryz.prog) w w.heap.size 43 5 i0 (.int .u8 0) 1 Tryz.underlying43 hi hz0 hz1 .i64 .i64 (8 * l.length) (by rw [hz2]; omega) (by unfold maxLen; omega) (Nat.le_refl _)
  rw [show ((8 * l.length : Nat) : Int) = 8 * (l.length : Int) by omega] at hmk
  have HO0 := Lib.hid (show OwnsB w0 w.heap.size _ (wordsL (l.take 0)) from ho0)
  have HG0 := Lib.hid (show Below w.heap.size w w0 from (Below.refl _ _).grown hg0 (Nat.le_refl _) (fun q hq => by cases hq))
  clear ho0 hg0
  go_enter Tryz.func41, Tryz.ntmps41
  go_wp2_with fail
  go_loopg [3, 13] l.length (fun gg s3 s13 wr => ∃ i : Nat, gg = l.length - i ∧ i ≤ l.length ∧ s13 = .int .i64 (i : Int) ∧ OwnsB wr w.heap.size s3 (wordsL (l.take i)) ∧ Below w.heap.size w wr)
  case atStart => exact ⟨0, rfl, by omega, rfl, HO0.out, HG0.out⟩
  case round =>
    obtain ⟨i, hgi, hi1, rfl, ho, hg⟩ := hrel
    obtain ⟨w5, hw5⟩ : ∃ z, z = wr := ⟨_, rfl⟩
    subst hw5
    have HGI := Lib.hid hgi; have HO := Lib.hid ho; have HG := Lib.hid hg
    have hwl := hg.size
    clear hgi ho hg HO0 HG0 hmk
    by_cases hlt : i < l.length
    · obtain ⟨c, o, rfl, hc⟩ := A3.out w5 HG.out i hlt
      have hlen : (wordsL (l.take i)).length ≤ 100000 := by rw [wordsL_len, List.length_take]; omega
      have hx := HS.out l[i] (List.getElem_mem hlt)
      have HSN := Lib.hid (wordsL_snoc l i hlt)
      generalize l[i] = x at *
      go_wp2_with fail
      go_loopg [3, 17] 8 (fun gg s3 s17 wx => ∃ j : Nat, gg = 8 - j ∧ j ≤ 8 ∧ s17 = .int .i64 (j : Int) ∧ OwnsB wx w.heap.size s3 (wordsL (l.take i) ++ leBytes x j) ∧ Below w.heap.size w wx)
      case atStart => exact ⟨0, rfl, by omega, rfl, by simpa [leBytes] using HO.out, HG.out⟩
      case round =>
        obtain ⟨j, hgj, hj, rfl, ho, hg⟩ := hrel
        have HGJ := Lib.hid hgj; have HOj := Lib.hid ho; have HGj := Lib.hid hg
        have hwj := hg.size
        clear hgj ho hg HO HG
        have hll : (wordsL (l.take i) ++ leBytes x j).length = (wordsL (l.take i)).length + j := by rw [List.length_append, leBytes_len]
        by_cases hjl : j < 8
        · have HSN2 := Lib.hid (show leBytes x (j + 1) = leBytes x j ++ [UInt8.ofNat (x / 256 ^ j % 256)] from rfl)
          have HBA := Lib.hid (byte_at x j)
          go_wp2_with (at_builtin; refine wpList_append_own _ rfl _ _ 43 rfl w.heap.size 5 i0 (.int .u8 0) 1 1 Tryz.underlying43 hi hz0 hz1 hz2 rfl (by decide) _ _ _ rfl (HOj.out.alloc _) ⟨_, 0, none⟩ 1 1 [.int .u8 ((x : Int) / 2 ^ (8 * j) % 256)] rfl rfl (cell_one_new _ _ _) ?c2 ?c3 ?c4 ?c5 ?_)
          case c2 => intro u hu; simp at hu; subst hu; rfl
          case c3 => rw [hll]; unfold maxLen; omega
          case c4 => rw [hll]; omega
          case c5 => simp; omega
          intro v' w7 hown' hgrow _
          have ho1 : OwnsB w7 w.heap.size v' (wordsL (l.take i) ++ leBytes x (j + 1)) := ownsB_of hown' (by
            rw [HSN2.out, ← List.append_assoc, HBA.out]
            simp only [Lib.byteCells_append]
            rfl)
          have hb1 : Below w.heap.size w w7 := (HGj.out.alloc hwj _).grown hgrow (by simp; omega) (fun q hq => (HOj.out.lt q hq).1)
          have HO7 := Lib.hid ho1; have HB7 := Lib.hid hb1; clear hown' hgrow ho1 hb1
          go_wp2_with fail
          all_goals (try (exfalso; go_light; omega))
          go_roundg (8 - (j + 1))
          case measure => rw [HGJ.out]; omega
          case rel => exact ⟨j + 1, rfl, by omega, by go_num, HO7.out, HB7.out⟩
        · have hj8 : j = 8 := by omega
          subst hj8
          have HO8 := Lib.hid (show OwnsB wr w.heap.size _ (wordsL (l.take (i + 1))) by rw [HSN.out]; exact HOj.out)
          go_wp2_with fail
          all_goals (try (exfalso; go_light; omega))
          go_roundg (l.length - (i + 1))
          case measure => rw [HGI.out]; omega
          case rel => exact ⟨i + 1, rfl, by omega, by go_num, HO8.out, HGj.out⟩
    · have ht : l.take i = l := List.take_of_length_le (by omega)
      have ho := HO.out
      rw [ht] at ho
      have HO2 := Lib.hid ho
      clear ho ht
      go_wp2_with fail
      go_ret
      exact ⟨_, rfl, HO2.out, HG.out⟩
end Go.Proofs.YtibopjjicfiimaaGreatDoor
