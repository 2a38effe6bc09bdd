/- Words in memory; words as bytes; the document's of both. -/
import Derived.Test.YtgmkoaompokfhaaDoorPackUnw
import Derived.Laws.MakeOwn
namespace Go.Proofs.YtgmkoaompokfhaaDoor
open Go.RowKit
set_option linter.unusedVariables false
def SmallW (l : List Nat) : Prop := ∀ x, x ∈ l → x < 18446744073709551616
/-- a slice that reads as these words -/
def WordsAt (w : World) (v : Value) (l : List Nat) : Prop := ∃ a cap, v = .slice a l.length cap ∧ l.length ≤ cap ∧ cap ≤ maxLen ∧ RowAt w a (wordVals l) ∧ (a = none → cap = 0)
theorem wordVals_length (l : List Nat) : (wordVals l).length = l.length := by simp [wordVals]
theorem WordsAt.later {w w' : World} {v : Value} {l : List Nat} (h : WordsAt w v l) (hb : Below w.heap.size w w') : WordsAt w' v l := by
  obtain ⟨a, cap, hv, h1, h2, h3, h4⟩ := h
  exact ⟨a, cap, hv, h1, h2, h3.later hb, h4⟩
theorem words_of_owns {w : World} {B e n : Nat} {v : Value} {l : List Nat} (h : w.ownsRow B e 1 v n (wordVals l)) : WordsAt w v l := by
  obtain ⟨a, cap, hv, h1, h2, h3, h5⟩ := row_of_owns_any h
  have hn : n = l.length := by have := h.1; rw [wordVals_length] at this; omega
  subst hn
  exact ⟨a, cap, hv, h1, h2, h3, h5⟩
theorem WordsAt.get {w : World} {v : Value} {l : List Nat} (h : WordsAt w v l) : ∃ a cap, v = .slice a l.length cap ∧ l.length ≤ cap ∧ cap ≤ maxLen ∧
    ∀ i (hi : i < l.length), ∃ b o, a = some ⟨b, o, none⟩ ∧ b < w.heap.size ∧ w.cell? ⟨b, o + i, none⟩ = some (.int .u64 (l[i] : Int)) := by
  obtain ⟨a, cap, hv, h1, h2, h3, h4⟩ := h
  refine ⟨a, cap, hv, h1, h2, fun i hi => ?_⟩
  rcases h3 with h3 | ⟨b, o, ha, hc⟩
  · have := wordVals_length l; rw [h3] at this; simp at this; omega
  · have hcc := hc i (by rw [wordVals_length]; exact hi)
    have e : (wordVals l)[i]? = some (.int .u64 (l[i] : Int)) := by simp [wordVals, hi]
    rw [e] at hcc
    exact ⟨b, o, ha, lt_of_cell hcc, hcc⟩
theorem WordsAt.take {w : World} {a : Option Addr} {n cap : Nat} {l : List Nat} (h : WordsAt w (.slice a n cap) l) (k : Nat) (hk : k ≤ l.length) : WordsAt w (.slice a k cap) (l.take k) := by
  obtain ⟨a', cap', hv, h1, h2, h3, h4⟩ := h
  injection hv with e1 e2 e3
  subst e1 e3
  have hlen : (l.take k).length = k := by rw [List.length_take]; omega
  refine ⟨a, cap, by rw [hlen], by omega, h2, ?_, h4⟩
  rcases h3 with h3 | ⟨b, o, ha, hc⟩
  · have : l = [] := by simpa [wordVals] using h3
    subst this; exact Or.inl (by simp [wordVals])
  · refine Or.inr ⟨b, o, ha, fun j hj => ?_⟩
    rw [wordVals_length, hlen] at hj
    rw [hc j (by rw [wordVals_length]; omega)]
    unfold wordVals
    rw [List.getElem?_map, List.getElem?_map, List.getElem?_take, if_pos hj]
theorem words_of_nums {w : World} {v : Value} {l : List Int} (h : NumsAt w .u64 v l) : ∃ m : List Nat, WordsAt w v m ∧ SmallW m := by
  obtain ⟨a, cap, hv, h1, h2, h3, h4⟩ := h
  have hb : ∀ i (hi : i < l.length), 0 ≤ l[i] ∧ l[i] < 18446744073709551616 := fun i hi => by
    obtain ⟨b, o, -, -, hw⟩ := h4 i hi
    have := bounds_u64 hw
    omega
  refine ⟨l.map Int.toNat, ⟨a, cap, by rw [List.length_map]; exact hv, by rw [List.length_map]; exact h1, h2, ?_, h3⟩, fun x hx => ?_⟩
  · by_cases hl : l.length = 0
    · left
      have : l = [] := List.eq_nil_of_length_eq_zero hl
      subst this; rfl
    · obtain ⟨b, o, ha, -, -⟩ := h4 0 (by omega)
      refine Or.inr ⟨b, o, ha, fun j hj => ?_⟩
      rw [wordVals_length, List.length_map] at hj
      obtain ⟨b', o', ha', hc, -⟩ := h4 j hj
      rw [ha] at ha'
      injection ha' with e
      injection e with e1 e2
      subst e1 e2
      rw [hc]
      have := (hb j hj).1
      simp [wordVals, hj]
      omega
  · obtain ⟨y, hy, rfl⟩ := List.mem_map.1 hx
    obtain ⟨i, hi, rfl⟩ := List.getElem_of_mem hy
    have := hb i hi
    omega
/-- words as bytes -/
def wordsL (l : List Nat) : List UInt8 := l.flatMap fun x => leBytes x 8
theorem wordsL_len (l : List Nat) : (wordsL l).length = 8 * l.length := by
  unfold wordsL
  induction l with
  | nil => rfl
  | cons x l ih => rw [List.flatMap_cons, List.length_append, leBytes_len, ih, List.length_cons]; omega
theorem wordsL_snoc (l : List Nat) (k : Nat) (h : k < l.length) : wordsL (l.take (k + 1)) = wordsL (l.take k) ++ leBytes l[k] 8 := by
  unfold wordsL
  rw [List.take_succ_eq_append_getElem h, List.flatMap_append]; simp
theorem leVal_le (x k : Nat) : leVal (leBytes x k) = x % 256 ^ k := by
  induction k with
  | zero => simp [leBytes, leVal, Nat.mod_one]
  | succ k ih =>
    rw [leBytes, leVal_snoc, ih, leBytes_len, Nat.pow_succ, Nat.mod_mul, Nat.pow_mul]
    simp
    rw [Nat.mul_comm]
theorem wordAt_words (l : List Nat) (i : Nat) (h : i < l.length) (hs : SmallW l) : wordAt (wordsL l) i = l[i] := by
  have e : ((wordsL l).drop (8 * i)).take 8 = leBytes l[i] 8 := by
    have h1 : l = l.take i ++ (l[i] :: l.drop (i + 1)) := by rw [← List.drop_eq_getElem_cons h, List.take_append_drop]
    have h2 : wordsL (l.take i ++ (l[i] :: l.drop (i + 1))) = wordsL (l.take i) ++ (leBytes l[i] 8 ++ wordsL (l.drop (i + 1))) := by unfold wordsL; rw [List.flatMap_append, List.flatMap_cons]
    rw [← h1] at h2
    have h3 : (wordsL (l.take i)).length = 8 * i := by rw [wordsL_len, List.length_take]; omega
    rw [h2, ← h3, List.drop_left]
    have h4 := leBytes_len l[i] 8
    conv => lhs; arg 1; rw [← h4]
    rw [List.take_left]
  unfold wordAt
  rw [e, leVal_le]
  exact Nat.mod_eq_of_lt (hs _ (List.getElem_mem h))
theorem wordsOf_words (l : List Nat) (hs : SmallW l) : wordsOf (wordsL l) l.length = l := by
  apply List.ext_getElem
  · simp [wordsOf]
  · intro i h1 h2
    simp [wordsOf, wordAt_words l i h2 hs]
set_option maxRecDepth 100000 in
theorem same_any (v u : Value) (l m : List Nat) (w : World) (hv : WordsAt w v l) (hu : WordsAt w u m) :
    Calls Tryd.prog 13 #[v, u] w fun e w' => e = .returned (.bool (decide (l = m))) ∧ Below w.heap.size w w' := by
  obtain ⟨a, ca, rfl, a1, a2, a3⟩ := hv.get
  obtain ⟨b, cb, rfl, b1, b2, b3⟩ := hu.get
  unfold maxLen at a2 b2
  by_cases hl : l.length = m.length
  · have A3 := Lib.hid (show ∀ W, Below w.heap.size w W → ∀ i (hi : i < l.length), ∃ b o, a = some ⟨b, o, none⟩ ∧ W.cell? ⟨b, o + i, none⟩ = some (.int .u64 (l[i] : Int)) from fun W hW i hi => by
      obtain ⟨b, o, h1, h2, h3⟩ := a3 i hi
      exact ⟨b, o, h1, (hW.cell (p := ⟨b, o + i, none⟩) h2).trans h3⟩)
    have B3 := Lib.hid (show ∀ W, Below w.heap.size w W → ∀ i (hi : i < m.length), ∃ c o, b = some ⟨c, o, none⟩ ∧ W.cell? ⟨c, o + i, none⟩ = some (.int .u64 (m[i] : Int)) from fun W hW i hi => by
      obtain ⟨b, o, h1, h2, h3⟩ := b3 i hi
      exact ⟨b, o, h1, (hW.cell (p := ⟨b, o + i, none⟩) h2).trans h3⟩)
    have HL := Lib.hid hl
    rw [← hl]
    rw [← hl] at b1
    clear a3 b3 hv hu hl
    go_enter Tryd.func13, Tryd.ntmps13
    go_wp2_with fail
    go_loopg [5] l.length (fun gg s5 wr => ∃ i : Nat, gg = l.length - i ∧ i ≤ l.length ∧ s5 = .int .i64 (i : Int) ∧ l.take i = m.take i ∧ Below w.heap.size w wr)
    case atStart => exact ⟨0, rfl, by omega, rfl, rfl, Below.refl _ _⟩
    case round =>
      obtain ⟨i, hgi, hi, rfl, ht, hg⟩ := hrel
      have HGI := Lib.hid hgi; have HT := Lib.hid ht; have HG := Lib.hid hg
      clear hgi ht hg
      by_cases hlt : i < l.length
      · have hlm : i < m.length := by rw [← HL.out]; exact hlt
        obtain ⟨c, o, rfl, hc⟩ := A3.out wr HG.out i hlt
        obtain ⟨c', o', rfl, hc'⟩ := B3.out wr HG.out i hlm
        have hlt' : (i : Int) < (l.length : Int) := by omega
        have HTS := Lib.hid (show l[i] = m[i] → l.take (i + 1) = m.take (i + 1) from fun h => by rw [List.take_succ_eq_append_getElem hlt, List.take_succ_eq_append_getElem hlm, HT.out, h])
        have HNE := Lib.hid (show ¬ l[i] = m[i] → l ≠ m from fun h e => h (by subst e; rfl))
        by_cases he : l[i] = m[i]
        · have HT2 := Lib.hid (HTS.out he)
          rw [← he] at hc'
          clear HNE HTS he
          generalize l[i] = x at *
          go_wp2_with fail
          go_quiet (fail)
          go_wp2_with fail
          all_goals (try (exfalso; go_light; omega))
          go_roundg (l.length - (i + 1))
          case measure => rw [HGI.out]; omega
          case rel => exact ⟨i + 1, rfl, by omega, by go_num, HT2.out, HG.out.trans ⟨rfl, rfl, rfl, Nat.le_refl _, fun _ _ => rfl⟩⟩
        · have HN := Lib.hid (HNE.out he)
          have hne : ¬ (l[i] : Int) = (m[i] : Int) := by omega
          have hne2 : (((l[i] : Nat) : Int) == ((m[i] : Nat) : Int)) = false := by rw [beq_eq_false_iff_ne]; exact hne
          clear HNE HTS he
          generalize l[i] = x at *
          generalize m[i] = y at *
          go_wp2_with fail
          go_quiet (fail)
          go_wp2_with fail
          all_goals (try (exfalso; go_light; omega))
          go_ret
          exact ⟨by rw [decide_eq_false HN.out]; rfl, HG.out.trans ⟨rfl, rfl, rfl, Nat.le_refl _, fun _ _ => rfl⟩⟩
      · have hil : i = l.length := by omega
        have he : l = m := by
          have := HT.out
          rw [hil, List.take_length, HL.out, List.take_length] at this
          exact this
        have HE := Lib.hid he
        clear he hil
        go_wp2_with fail
        go_ret
        exact ⟨by rw [decide_eq_true HE.out]; rfl, HG.out⟩
  · have hne : l ≠ m := fun h => hl (by rw [h])
    rw [decide_eq_false hne]
    have hl2 : ¬ (l.length : Int) = (m.length : Int) := by omega
    clear a3 b3 hv hu hl hne
    go_enter Tryd.func13, Tryd.ntmps13
    go_wp2_with fail
    all_goals (try (exfalso; go_light; omega))
    go_ret
    exact ⟨rfl, Below.refl _ _⟩
end Go.Proofs.YtgmkoaompokfhaaDoor
