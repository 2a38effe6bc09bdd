/- Events' text read back, in plain Lean: nothing of the program. -/
import Derived.Test.YtffmkmhnhecmnaaEvPlain
import Derived.Lib.Bytealg
namespace Go.Proofs.Ytffmkmhnhecmnaa
theorem index_at (l r : List UInt8) (c : UInt8) (h : ∀ b, b ∈ l → b ≠ c) : Lib.indexByte (l ++ c :: r) c = (l.length : Int) := by
  induction l with
  | nil => simp [Lib.indexByte]
  | cons b l ih =>
    have hb : (b == c) = false := by simpa using h b (by simp)
    have ih := ih (fun x hx => h x (by simp [hx]))
    have hq : (((l.length : Nat) : Int) == -1) = false := by rw [beq_eq_false_iff_ne]; omega
    simp only [List.cons_append, Lib.indexByte, hb, ih, hq, List.length_cons]
    simp
theorem index_none (l : List UInt8) (c : UInt8) (h : ∀ b, b ∈ l → b ≠ c) : Lib.indexByte l c = -1 := by
  induction l with
  | nil => rfl
  | cons b l ih =>
    have hb : (b == c) = false := by simpa using h b (by simp)
    simp [Lib.indexByte, hb, ih (fun x hx => h x (by simp [hx]))]
def digitsL : List UInt8 := [48, 49, 50, 51, 52, 53, 54, 55, 56, 57, 97, 98, 99, 100, 101, 102]
theorem index_digit (n : Nat) (h : n < 16) : Lib.indexByte digitsL (hexD n) = (n : Int) := by
  have hn : n = 0 ∨ n = 1 ∨ n = 2 ∨ n = 3 ∨ n = 4 ∨ n = 5 ∨ n = 6 ∨ n = 7 ∨ n = 8 ∨ n = 9 ∨ n = 10 ∨ n = 11 ∨ n = 12 ∨ n = 13 ∨ n = 14 ∨ n = 15 := by omega
  rcases hn with rfl | rfl | rfl | rfl | rfl | rfl | rfl | rfl | rfl | rfl | rfl | rfl | rfl | rfl | rfl | rfl <;> decide
theorem hexD_ge (n : Nat) (h : n < 16) : 48 ≤ (hexD n).toNat := by
  have hn : n = 0 ∨ n = 1 ∨ n = 2 ∨ n = 3 ∨ n = 4 ∨ n = 5 ∨ n = 6 ∨ n = 7 ∨ n = 8 ∨ n = 9 ∨ n = 10 ∨ n = 11 ∨ n = 12 ∨ n = 13 ∨ n = 14 ∨ n = 15 := by omega
  rcases hn with rfl | rfl | rfl | rfl | rfl | rfl | rfl | rfl | rfl | rfl | rfl | rfl | rfl | rfl | rfl | rfl <;> decide
theorem qB_ge (c b : UInt8) (h : b ∈ qB c) : 32 ≤ b.toNat := by
  unfold qB at h
  have hc : c.toNat < 256 := c.toNat_lt
  split at h
  · rename_i hp
    simp at h; subst h
    have hp := of_decide_eq_true hp
    exact hp.1
  · simp at h
    have h1 := hexD_ge (c.toNat / 16) (by omega)
    have h2 := hexD_ge (c.toNat % 16) (by omega)
    rcases h with rfl | rfl | rfl
    · decide
    · omega
    · omega
theorem quoteL_ge (l : List UInt8) (b : UInt8) (h : b ∈ quoteL l) : 32 ≤ b.toNat := by
  unfold quoteL qAll at h
  simp at h
  rcases h with rfl | ⟨c, -, h⟩ | rfl
  · decide
  · exact qB_ge c b h
  · decide
theorem lineL_ge (e : Ev) (b : UInt8) (h : b ∈ lineL e) : 32 ≤ b.toNat := by
  unfold lineL at h
  split at h
  · rw [List.mem_append] at h
    rcases h with h | h
    · simp [sOut] at h; rcases h with rfl | rfl | rfl | rfl <;> decide
    · exact quoteL_ge _ _ h
  · split at h
    · rw [List.mem_append] at h
      rcases h with h | h
      · simp [sFault] at h; rcases h with rfl | rfl | rfl | rfl | rfl | rfl <;> decide
      · exact quoteL_ge _ _ h
    · split at h
      · simp [sSaved] at h; rcases h with rfl | rfl | rfl | rfl | rfl <;> decide
      · simp [sNone] at h; subst h; decide
theorem lineL_nl (e : Ev) (b : UInt8) (h : b ∈ lineL e) : b ≠ 10 := by
  intro hb
  have := lineL_ge e b h
  subst hb
  exact absurd this (by decide)
theorem textL_cons (e : Ev) (l : List Ev) : textL (e :: l) = lineL e ++ 10 :: textL l := by simp [textL]
theorem index_line (e : Ev) (l : List Ev) : Lib.indexByte (textL (e :: l)) 10 = ((lineL e).length : Int) := by
  rw [textL_cons]; exact index_at _ _ _ (lineL_nl e)
theorem index_out (l : List UInt8) : Lib.indexByte (sOut ++ quoteL l) 32 = 3 := by
  rw [show sOut ++ quoteL l = [111, 117, 116] ++ 32 :: quoteL l by simp [sOut]]
  exact index_at _ _ _ (by simp)
theorem index_fault (l : List UInt8) : Lib.indexByte (sFault ++ quoteL l) 32 = 5 := by
  rw [show sFault ++ quoteL l = [102, 97, 117, 108, 116] ++ 32 :: quoteL l by simp [sFault]]
  exact index_at _ _ _ (by simp)
theorem index_q : Lib.indexByte sNone 32 = -1 := by decide
/-- how far the first k bytes reach as they are shown -/
def qPos (l : List UInt8) (k : Nat) : Nat := (qAll (l.take k)).length
theorem qAll_split (l : List UInt8) (k : Nat) (h : k < l.length) : qAll l = qAll (l.take k) ++ (qB l[k] ++ qAll (l.drop (k + 1))) := by
  have h1 : l = l.take k ++ (l[k] :: l.drop (k + 1)) := by rw [← List.drop_eq_getElem_cons h, List.take_append_drop]
  have h2 : qAll (l.take k ++ (l[k] :: l.drop (k + 1))) = qAll (l.take k) ++ (qB l[k] ++ qAll (l.drop (k + 1))) := by unfold qAll; rw [List.flatMap_append, List.flatMap_cons]
  rw [← h2, ← h1]
theorem qPos_succ (l : List UInt8) (k : Nat) (h : k < l.length) : qPos l (k + 1) = qPos l k + (qB l[k]).length := by
  unfold qPos
  rw [List.take_succ_eq_append_getElem h, qAll_snoc, List.length_append]
theorem qPos_end (l : List UInt8) : qPos l l.length = (qAll l).length := by unfold qPos; rw [List.take_length]
theorem qB_plain {c : UInt8} (h : plainB c = true) : qB c = [c] := by unfold qB; rw [if_pos h]
theorem qB_hex {c : UInt8} (h : ¬ plainB c = true) : qB c = [92, hexD (c.toNat / 16), hexD (c.toNat % 16)] := by unfold qB; rw [if_neg h]
theorem q_plain (l : List UInt8) (k : Nat) (h : k < l.length) (hp : plainB l[k] = true) : (qAll l)[qPos l k]? = some l[k] ∧ qPos l (k + 1) = qPos l k + 1 ∧ qPos l k + 1 ≤ (qAll l).length := by
  have hs := qAll_split l k h
  rw [qB_plain hp] at hs
  refine ⟨?_, by rw [qPos_succ l k h, qB_plain hp]; rfl, ?_⟩
  · rw [hs]; unfold qPos; rw [List.getElem?_append_right (Nat.le_refl _)]; simp
  · rw [hs]; unfold qPos; simp only [List.length_append, List.length_singleton]; omega
theorem q_hex (l : List UInt8) (k : Nat) (h : k < l.length) (hp : ¬ plainB l[k] = true) :
    (qAll l)[qPos l k]? = some 92 ∧ (qAll l)[qPos l k + 1]? = some (hexD (l[k].toNat / 16)) ∧ (qAll l)[qPos l k + 2]? = some (hexD (l[k].toNat % 16)) ∧ qPos l (k + 1) = qPos l k + 3 ∧ qPos l k + 3 ≤ (qAll l).length := by
  have hs := qAll_split l k h
  rw [qB_hex hp] at hs
  refine ⟨?_, ?_, ?_, by rw [qPos_succ l k h, qB_hex hp]; rfl, ?_⟩
  · rw [hs]; unfold qPos; rw [List.getElem?_append_right (Nat.le_refl _)]; simp
  · rw [hs]; unfold qPos; rw [List.getElem?_append_right (by omega), show (qAll (l.take k)).length + 1 - (qAll (l.take k)).length = 1 by omega]; simp
  · rw [hs]; unfold qPos; rw [List.getElem?_append_right (by omega), show (qAll (l.take k)).length + 2 - (qAll (l.take k)).length = 2 by omega]; simp
  · rw [hs]; unfold qPos; simp only [List.length_append, List.length_cons, List.length_nil]; omega
theorem plain_not92 {c : UInt8} (h : plainB c = true) : c.toNat ≠ 92 := (of_decide_eq_true h).2.2.2
/-- all are of a kind that can be read -/
def plainK (l : List Ev) : Bool := l.all fun e => decide (1 ≤ e.kind ∧ e.kind ≤ 3)
/-- what is read back: a kind's own part -/
def backE (e : Ev) : Ev := if e.kind = 1 then ⟨1, e.bytes, []⟩ else if e.kind = 2 then ⟨2, [], e.name⟩ else ⟨3, [], []⟩
theorem backE_line (e : Ev) (h1 : 1 ≤ e.kind) (h3 : e.kind ≤ 3) : lineL (backE e) = lineL e := by
  unfold backE
  by_cases a : e.kind = 1
  · rw [if_pos a]; unfold lineL; rw [if_pos rfl, if_pos a]
  · by_cases b : e.kind = 2
    · rw [if_neg a, if_pos b]; unfold lineL; rw [if_neg (show ¬ (2 : Int) = 1 by decide), if_pos rfl, if_neg a, if_pos b]
    · have : e.kind = 3 := by omega
      rw [if_neg a, if_neg b]; unfold lineL
      rw [if_neg (show ¬ (3 : Int) = 1 by decide), if_neg (show ¬ (3 : Int) = 2 by decide), if_pos rfl, if_neg a, if_neg b, if_pos this]
theorem back_text (l : List Ev) (h : plainK l = true) : textL (l.map backE) = textL l := by
  induction l with
  | nil => rfl
  | cons e l ih =>
    unfold plainK at h
    rw [List.all_cons, Bool.and_eq_true, decide_eq_true_eq] at h
    rw [List.map_cons, textL_cons, textL_cons, backE_line e h.1.1 h.1.2, ih h.2]
theorem back_small (l : List Ev) (h : ∀ e, e ∈ l → e.bytes.length ≤ 200 ∧ e.name.length ≤ 200) : ∀ e, e ∈ l.map backE → e.bytes.length ≤ 200 ∧ e.name.length ≤ 200 := by
  intro e he
  obtain ⟨x, hx, rfl⟩ := List.mem_map.1 he
  have := h x hx
  unfold backE
  split
  · exact ⟨this.1, by simp⟩
  · split
    · exact ⟨by simp, this.2⟩
    · exact ⟨by simp, by simp⟩
end Go.Proofs.Ytffmkmhnhecmnaa
