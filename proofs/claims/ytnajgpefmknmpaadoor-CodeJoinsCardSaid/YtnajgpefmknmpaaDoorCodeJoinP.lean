/- The text of instructions has a line for each, in plain Lean. -/
import Derived.Test.YtnajgpefmknmpaaDoorCodeEncP
import Derived.Lib.ConvBytes
namespace Go.Proofs.YtnajgpefmknmpaaDoor
open Go.RowKit
set_option linter.unusedVariables false
theorem dec_digits (u : Nat) : ∀ c, c ∈ Lib.decDigits u → c.toNat ≠ 10 := by
  induction u using Nat.strongRecOn with
  | _ u ih =>
    intro c hc
    by_cases h : u < 10
    · rw [Lib.decDigits_one h] at hc
      have : c = UInt8.ofNat (48 + u) := by simpa using hc
      rw [this]; simp; omega
    · rw [show Lib.decDigits u = Lib.decDigits (u / 10) ++ [UInt8.ofNat (48 + u % 10)] by rw [Lib.decDigits, dif_neg h]] at hc
      rcases List.mem_append.1 hc with hc | hc
      · exact ih (u / 10) (by omega) c hc
      · have : c = UInt8.ofNat (48 + u % 10) := by simpa using hc
        rw [this]; simp; omega
/-- no end of a line in it -/
def plain (l : List UInt8) : Prop := ∀ c ∈ l, c ≠ 10
theorem plain_itoa (n : Int) : plain (Lib.itoa n) := by
  intro c hc e
  subst e
  unfold Lib.itoa at hc
  split at hc
  · rcases List.mem_cons.1 hc with h | h
    · exact absurd h (by decide)
    · exact dec_digits _ _ h rfl
  · exact dec_digits _ _ hc rfl
theorem plain_name (op : Int) : plain (fmOf op).name := by
  have hT : ∀ i : Fin 20, ∀ c ∈ (fmT.getD i.val ⟨[], 0, false, 0⟩).name, c ≠ 10 := by decide
  unfold fmOf plain
  split
  · rcases Nat.lt_or_ge op.toNat 20 with h | h
    · exact hT ⟨op.toNat, h⟩
    · rw [List.getD_eq_getElem?_getD, List.getElem?_eq_none (by show 20 ≤ _; omega)]
      intro c hc; cases hc
  · intro c hc; cases hc
theorem plain_join : ∀ ws : List (List UInt8), (∀ w ∈ ws, plain w) → plain (Lib.join ws [32])
  | [], _ => by intro c hc; cases hc
  | x :: r, h => by
    rw [Lib.join_cons]
    intro c hc
    rcases List.mem_append.1 hc with hc | hc
    · exact h x (by simp) c hc
    · unfold Lib.joinTail at hc
      obtain ⟨l, hl, hc⟩ := List.mem_flatten.1 hc
      obtain ⟨y, hy, rfl⟩ := List.mem_map.1 hl
      rcases List.mem_append.1 hc with hc | hc
      · rw [List.mem_singleton] at hc; subst hc; decide
      · exact h y (by simp [hy]) c hc
theorem count_plain {l : List UInt8} (h : plain l) : l.count 10 = 0 := List.count_eq_zero.2 fun hc => h 10 hc rfl
theorem count_line (p : Nat) (x : Ins) : (lineL p x).count 10 = 1 := by
  unfold lineL
  rw [List.count_append, count_plain (plain_join _ ?_)]
  · rfl
  · intro w hw
    unfold wordsL at hw
    rcases List.mem_append.1 hw with hw | hw
    · rcases List.mem_append.1 hw with hw | hw
      · rcases List.mem_cons.1 hw with rfl | hw
        · exact plain_itoa _
        · rw [List.mem_singleton] at hw; subst hw; exact plain_name _
      · split at hw
        · rw [List.mem_singleton] at hw; subst hw; exact plain_itoa _
        · cases hw
    · split at hw
      · rw [List.mem_singleton] at hw; subst hw; exact plain_itoa _
      · cases hw
theorem encB_pos (x : Ins) : 1 ≤ (encB x).length := by rw [encB_len]; omega
theorem textG_enc : ∀ (L : List Ins) (f : Nat) (pre acc : List UInt8), L.all encOk = true → (encAll L).length ≤ f → pre.length + (encAll L).length ≤ 100000 →
    ∃ T, textG f (pre ++ encAll L) pre.length acc = (acc ++ T, 0) ∧ T.count 10 = L.length ∧ T.length ≤ 90 * L.length
  | [], f, pre, acc, _, _, _ => ⟨[], by rw [textG_end (by simp [encAll])]; simp, rfl, by simp⟩
  | x :: L, f, pre, acc, hok, hf, hm => by
    rw [List.all_cons, Bool.and_eq_true] at hok
    have he : encAll (x :: L) = encB x ++ encAll L := by unfold encAll; rw [List.flatMap_cons]
    have hp := encB_pos x
    rw [he] at hf hm ⊢
    rw [List.length_append] at hf hm
    obtain ⟨f', rfl⟩ : ∃ f', f = f' + 1 := ⟨f - 1, by omega⟩
    have hd := dec_enc pre (encAll L) x hok.1
    have hlt : pre.length < (pre ++ (encB x ++ encAll L)).length := by rw [List.length_append, List.length_append]; omega
    have hr := dec_range hlt (by rw [hd])
    rw [hd] at hr
    have hll := lineL_le pre.length x (by omega) ⟨hr.1, hr.2.1⟩ ⟨hr.2.2.1, hr.2.2.2⟩
    rw [textG_step hlt (by rw [hd]), hd]
    simp only [Int.toNat_natCast]
    have hl : pre ++ (encB x ++ encAll L) = (pre ++ encB x) ++ encAll L := (List.append_assoc _ _ _).symm
    rw [hl, show pre.length + (encB x).length = (pre ++ encB x).length by rw [List.length_append]]
    obtain ⟨T, h1, h2, h3⟩ := textG_enc L f' (pre ++ encB x) (acc ++ lineL pre.length x) hok.2 (by omega) (by rw [List.length_append]; omega)
    exact ⟨lineL pre.length x ++ T, by rw [h1, List.append_assoc], by rw [List.count_append, count_line, h2, List.length_cons]; omega, by rw [List.length_append, List.length_cons]; omega⟩
/-- the text of what is encoded: no error, and as many lines as instructions -/
theorem text_enc (L : List Ins) (hok : L.all encOk = true) (hL : L.length ≤ 1000) : ∃ T, textM (encAll L) = (T, 0) ∧ T.count 10 = L.length ∧ T.length ≤ 90 * L.length := by
  have h0 := encAll_le L
  obtain ⟨T, h1, h2, h3⟩ := textG_enc L (encAll L).length [] [] hok (Nat.le_refl _) (by simp; omega)
  simp only [List.nil_append, List.length_nil] at h1
  exact ⟨T, h1, h2, h3⟩
theorem len_ba2 (s : ByteArray) : s.data.toList.length = s.size := by simp
/-- a string's bytes, in a row of their own -/
theorem conv_bytes (s : ByteArray) (w : World) (hs : s.size ≤ 1000000) : ∃ a cap w', (convert 9 29 (.string s)).run Tryd.prog w = .ok (.slice a s.size cap) w' ∧ BytesAt w' (.slice a s.size cap) s.data.toList ∧ Below w.heap.size w w' := by
  have h := Lib.run_convert_string_bytes (P := Tryd.prog) w 9 29 5 s Tryd.underlying9 Tryd.underlying29 Tryd.underlying5
  refine ⟨_, _, _, h, ?_, ?_⟩
  · refine ⟨_, _, by rw [len_ba2], by rw [len_ba2]; exact grownCap_ge w s.size 0 _, grownCap_le_maxLen w s.size 0 _ (by unfold maxLen; omega), Or.inr ⟨w.heap.size, 0, rfl, fun j hj => ?_⟩, fun h => by cases h⟩
    rw [Lib.byteCells_length, len_ba2] at hj
    rw [Nat.zero_add, Lib.bytesWorld_cell w _ s j hj]
    have hj2 : j < s.data.toList.length := by rw [len_ba2]; exact hj
    unfold Lib.byteCells
    rw [List.getElem?_map, List.getElem?_eq_getElem hj2]
    simp [List.getD, List.getElem?_eq_getElem hj2]
  · refine ⟨rfl, rfl, rfl, ?_, fun p hp => Lib.bytesWorld_at_old w _ s p hp⟩
    rw [Lib.bytesWorld_size]; omega
/-- rows of instructions, one behind the other -/
theorem insL_append (L M : List Ins) : insL (L ++ M) = insL L ++ insL M := by unfold insL; rw [List.flatMap_append]
theorem insL_ones (L : List Ins) : ∀ u ∈ insL L, u.oneCell' = true := by
  intro u hu
  unfold insL at hu
  obtain ⟨x, -, hx⟩ := List.mem_flatMap.1 hu
  unfold insC at hx
  simp at hx
  rcases hx with rfl | rfl | rfl <;> rfl
theorem encAll_append (L M : List Ins) : encAll (L ++ M) = encAll L ++ encAll M := by unfold encAll; rw [List.flatMap_append]
/-- a list that grows by its k-th -/
theorem count_take_succ (l : List UInt8) (k : Nat) (h : k < l.length) : (l.take (k + 1)).count 10 = (l.take k).count 10 + if l[k] = 10 then 1 else 0 := by
  rw [List.take_succ_eq_append_getElem h, List.count_append]
  congr 1
  by_cases e : l[k] = 10
  · rw [if_pos e, e]; rfl
  · rw [if_neg e]; exact List.count_eq_zero.2 fun hc => e (List.mem_singleton.1 hc).symm
/-- what Encode leaves, whether it may or not -/
theorem EncPost.any {L : List Ins} {w w' : World} {e : Ending} (h : EncPost L w e w') : ∃ v c, e = .returned (.tuple #[v, .int .i64 c]) ∧ (c = 0 ∧ L.all encOk = true ∧ OwnsB w' w.heap.size v (encAll L) ∨ c = 1 ∧ L.all encOk = false ∧ v = .slice none 0 0) ∧ Below w.heap.size w w' := by
  cases ht : L.all encOk with
  | true => obtain ⟨v, h1, h2, h3⟩ := h.t ht; exact ⟨v, 0, h1, Or.inl ⟨rfl, rfl, h2⟩, h3⟩
  | false => obtain ⟨h1, h2⟩ := h.f ht; exact ⟨_, 1, h1, Or.inr ⟨rfl, rfl, rfl⟩, h2⟩
end Go.Proofs.YtnajgpefmknmpaaDoor
