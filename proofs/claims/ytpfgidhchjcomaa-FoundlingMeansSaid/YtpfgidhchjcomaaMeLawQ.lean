/- What a method has that is cut, and that Check passes. -/
import Derived.Test.YtpfgidhchjcomaaMeLawP
namespace Go.Proofs.Ytpfgidhchjcomaa
open Go.RowKit
set_option linter.unusedVariables false
theorem cutS_le (s : ByteArray) : (cutS s).size ≤ 5000 := by
  unfold cutS
  split
  · rw [ByteArray.size_extract]; omega
  · omega
theorem mem_fewS {f : Nat → List Nd → List Nd × Nat} (hf : ∀ m k, (f m k).2 ≤ m) : ∀ (l : List Nd) (n : Nat) (y : Nd), y ∈ (fewS f n l).1 → ∃ x m, m ≤ n ∧ y = cutN x (f m x.kids).1
  | [], n, y, h => by cases h
  | x :: l, n, y, h => by
    by_cases hn : n = 0
    · subst hn; rw [fewS_zero] at h; cases h
    · rw [fewS_cons f n hn] at h
      rcases List.mem_cons.1 h with rfl | h
      · exact ⟨x, n - 1, by omega, rfl⟩
      · obtain ⟨x', m, hm, e⟩ := mem_fewS hf l _ y h
        have := hf (n - 1) x.kids
        exact ⟨x', m, by omega, e⟩
theorem few_len : ∀ (d n : Nat) (l : List Nd), n ≤ 200 → lenL d (few d n l).1
  | 0, n, l, hn => Nat.zero_le _
  | d + 1, n, l, hn => by
    have h := fewS_le (few d) (few_le d) l n
    refine ⟨by show (fewS (few d) n l).1.length ≤ 200; omega, fun y hy => ?_⟩
    obtain ⟨x, m, hm, rfl⟩ := mem_fewS (few_le d) l n y hy
    exact few_len d m x.kids (by omega)
theorem few_sm : ∀ (d n : Nat) (l : List Nd), n ≤ 200 → smT d (few d n l).1
  | 0, n, l, hn => trivial
  | d + 1, n, l, hn => by
    have h := fewS_le (few d) (few_le d) l n
    refine ⟨by show (fewS (few d) n l).1.length ≤ 200; omega, fun y hy => ?_⟩
    obtain ⟨x, m, hm, rfl⟩ := mem_fewS (few_le d) l n y hy
    refine ⟨?_, cutS_le _, few_sm d m x.kids (by omega)⟩
    show (x.names.take 9).length ≤ 9
    rw [List.length_take]
    omega
theorem few_cnt : ∀ (d n : Nat) (l : List Nd), (allL d (few d n l).1).length + (few d n l).2 ≤ n
  | 0, n, l => by show 0 + n ≤ n; omega
  | d + 1, n, l => by
    have key : ∀ (l : List Nd) (n : Nat), (allS (allL d) (fewS (few d) n l).1).length + (fewS (few d) n l).2 ≤ n := by
      intro l
      induction l with
      | nil => intro n; show 0 + n ≤ n; omega
      | cons x l ih =>
        intro n
        by_cases hn : n = 0
        · subst hn; rw [fewS_zero]; exact Nat.le_refl _
        · rw [fewS_cons (few d) n hn]
          have h1 := few_cnt d (n - 1) x.kids
          have h2 := ih (few d (n - 1) x.kids).2
          show (cutN x (few d (n - 1) x.kids).1 :: (allL d (few d (n - 1) x.kids).1 ++ allS (allL d) (fewS (few d) (few d (n - 1) x.kids).2 l).1)).length + _ ≤ n
          simp only [List.length_cons, List.length_append]
          omega
    exact key l n
theorem arM_size {s : ByteArray} (h : 0 ≤ arM s) : s.size ≤ 64 := by
  by_cases hb : s.size = 0 ∨ 64 < s.size
  · rw [show arM s = -1 by unfold arM; rw [if_pos hb]] at h
    omega
  · omega
theorem nameB_size {s : ByteArray} (h : nameB s = true) : s.size ≤ 64 := by
  unfold nameB at h
  have := of_decide_eq_true h
  exact arM_size (by omega)
theorem not_any {l : List ByteArray} (h : (l.any fun s => !nameB s) = false) : ∀ s, s ∈ l → s.size ≤ 64 := fun s hs => by
  have h1 := List.any_eq_false.1 h s hs
  exact nameB_size (by simpa using h1)
theorem bare_names {n : Nd} {b1 b2 : Bool} {c : Int} (h : bareB n b1 b2 c false = true) : n.names.length = 0 := by
  unfold bareB at h
  have := (Bool.and_eq_true_iff.1 h).2
  simpa using this
theorem shape_names {n : Nd} (h : shapeB n = true) : ∀ s, s ∈ n.names → s.size ≤ 64 := by
  intro s hs
  by_cases h9 : n.kind = 9
  · unfold shapeB at h
    rw [h9] at h
    simp at h
    have h1 := h.2
    unfold allNm at h1
    exact not_any (by simpa using h1) s hs
  · exfalso
    have hz : n.names.length = 0 := by
      unfold shapeB at h
      repeat' split at h
      all_goals first
        | contradiction
        | exact bare_names h
        | exact bare_names (Bool.and_eq_true_iff.1 h).1
        | exact absurd h Bool.false_ne_true
    rw [List.length_eq_zero_iff.1 hz] at hs
    cases hs
theorem fit1_names {q : Nd → Bool → Bool} {n : Nd} {may : Bool} (h : fitB1 q n may = true) : (∀ s, s ∈ n.names → s.size ≤ 64) ∧ ∀ k, k ∈ n.kids → ∃ b, q k b = true := by
  unfold fitB1 at h
  simp only [Bool.and_eq_true] at h
  refine ⟨shape_names h.1.1.1, fun k hk => ?_⟩
  have h3 := h.2
  unfold kidsAll at h3
  obtain ⟨i, hi, rfl⟩ := List.mem_iff_getElem.1 hk
  have h4 := List.all_eq_true.1 h3 i (List.mem_range.2 hi)
  rw [List.getElem?_eq_getElem hi] at h4
  exact ⟨_, h4⟩
theorem mem_allS {f : List Nd → List Nd} {y : Nd} : ∀ {l : List Nd}, y ∈ allS f l → ∃ n, n ∈ l ∧ (y = n ∨ y ∈ f n.kids)
  | [], h => by cases h
  | n :: l, h => by
    change y ∈ n :: (f n.kids ++ allS f l) at h
    rcases List.mem_cons.1 h with rfl | h
    · exact ⟨y, List.mem_cons_self, Or.inl rfl⟩
    · rcases List.mem_append.1 h with h | h
      · exact ⟨n, List.mem_cons_self, Or.inr h⟩
      · obtain ⟨n', h1, h2⟩ := mem_allS h
        exact ⟨n', List.mem_cons_of_mem _ h1, h2⟩
theorem fits_names : ∀ (d : Nat) (l : List Nd), (∀ n, n ∈ l → ∃ b, fitsB d n b = true) → ∀ y, y ∈ allL (d + 1) l → ∀ s, s ∈ y.names → s.size ≤ 64
  | 0, l, h, y, hy => by
    obtain ⟨n, hn, h1⟩ := mem_allS (f := allL 0) hy
    obtain ⟨b, hb⟩ := h n hn
    rcases h1 with rfl | h1
    · exact (fit1_names hb).1
    · cases h1
  | d + 1, l, h, y, hy => by
    obtain ⟨n, hn, h1⟩ := mem_allS (f := allL (d + 1)) hy
    obtain ⟨b, hb⟩ := h n hn
    rcases h1 with rfl | h1
    · exact (fit1_names hb).1
    · exact fits_names d n.kids (fun k hk => (fit1_names hb).2 k hk) y h1
/-- behind Check: how long names are -/
theorem check_names {d : Nat} {nm : ByteArray} {ps ts : List ByteArray} {pr : Int} {l : List Nd} (h : checkM d nm ps ts pr l = 0) : nm.size ≤ 64 ∧ (∀ s, s ∈ ps → s.size ≤ 64) ∧ (∀ s, s ∈ ts → s.size ≤ 64) ∧ ∀ y, y ∈ allL (d + 1) l → ∀ s, s ∈ y.names → s.size ≤ 64 := by
  obtain ⟨h1, h2⟩ := check_fits h
  unfold headB at h1
  simp only [Bool.or_eq_false_iff] at h1
  refine ⟨arM_size ?_, not_any h1.1.1.2, not_any h1.1.2, fits_names d l fun n hn => ⟨false, h2 n hn⟩⟩
  have h3 := h1.1.1.1.1.1
  have h4 : arM nm = (ps.length : Int) := by simpa using h3
  omega
theorem all_name : ∀ (d : Nat) (l : List Nd), smT d l → ∀ y, y ∈ allL d l → y.name.size ≤ 5000 ∧ y.names.length ≤ 9
  | 0, l, h, y, hy => by cases hy
  | d + 1, l, h, y, hy => by
    obtain ⟨n, hn, h1⟩ := mem_allS (f := allL d) hy
    obtain ⟨q1, q2, q3⟩ := h.2 n hn
    rcases h1 with rfl | h1
    · exact ⟨q2, q1⟩
    · exact all_name d n.kids q3 y h1
end Go.Proofs.Ytpfgidhchjcomaa
