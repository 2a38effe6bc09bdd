/- Words that are appended; what words of memory lead to. Order: what the words lead to, as it is first led to: the plain law. -/
import Derived.Test.YtibopjjicfiimaaGreatDoorLayOpen
import Derived.Test.YtibopjjicfiimaaGreatDoorMarkN
import Derived.Test.YtibopjjicfiimaaGreatDoorPackSame
import Derived.Test.YtibopjjicfiimaaGreatDoorLaidTab
import Derived.Laws.AppendOwnNone
namespace Go.Proofs.YtibopjjicfiimaaGreatDoor
open Go.RowKit
set_option linter.unusedVariables false
theorem wpList_append_words {P : Program} {w : World} {ops : Array Oper} {rest : List Oper} {o : Oper} {a : Act} {Q : Exit → Act → World → Prop} (hgd : o.guard = none) (s x : Operand) (t : TypeId)
    (ho : o.op = .call { callee := .builtin .append, args := #[s, x], argTypes := #[t, t] })
    (base : Nat) (e : TypeId) (i : TypeInfo) (ht : P.underlying t = some (.slice e)) (hi : P.info? e = some i) (hz : i.zero = some (.int .u64 0)) (hsize : i.size = 1) (hby : i.bytes = 8)
    (v : Value) (n : Nat) (xs : List Value) (hs : a.eval s = v) (hown : w.ownsRow base e 1 v n xs)
    (xv : Value) (rs : List Nat) (hx : a.eval x = xv) (hw : WordsAt w xv rs) (h63 : n + rs.length ≤ 10000) (hbase : base ≤ w.heap.size)
    (h : ∀ v' w', w'.ownsRow base e 1 v' (n + rs.length) (xs ++ wordVals rs) → w.grownBy w' v.ownBlock → wpList P ops Q rest (a.put o.dst v') w') : wpList P ops Q (o :: rest) a w := by
  obtain ⟨ad, cap, rfl, h1, h2, h3, h4⟩ := hw
  rcases h3 with h3 | ⟨b, q, rfl, hc⟩
  · have hr : rs.length = 0 := by rw [← wordVals_length, h3]; rfl
    have hr0 : rs = [] := List.length_eq_zero_iff.1 hr
    subst hr0
    cases ad with
    | none =>
      obtain rfl : cap = 0 := h4 rfl
      exact wpList_append_own_none hgd s x t ho base e i 1 ht hi v n xs hs hown hx (h v w (by simpa [wordVals] using hown) (World.grownBy.refl _ _))
    | some ad =>
      exact wpList_append_own w hgd s x t ho base e i (.int .u64 0) 1 8 ht hi hz hsize hby rfl (by omega) v n xs hs hown ad 0 cap [] hx rfl (fun j u hj => by simp at hj) (fun u hu => by simp at hu) (by unfold maxLen; omega) (by omega) hbase
        (fun v' w' h1 h2 _ => h v' w' (by simpa [wordVals] using h1) h2)
  · exact wpList_append_own w hgd s x t ho base e i (.int .u64 0) 1 8 ht hi hz hsize hby rfl (by omega) v n xs hs hown ⟨b, q, none⟩ rs.length cap (wordVals rs) hx (by rw [wordVals_length]; omega) (RowAt.add (Or.inr ⟨b, q, rfl, hc⟩))
      (fun u hu => by simp only [wordVals, List.mem_map] at hu; obtain ⟨x, _, rfl⟩ := hu; rfl) (by unfold maxLen; omega) (by omega) hbase (fun v' w' h1 h2 _ => h v' w' h1 h2)
theorem reach_words (B0 h N free : Nat) (S : Nat → Bool) (M : Nat → Nat) (rs : List Nat) (xv : Value) (w : World) (H0 : HeapAt w B0 h N free S M) (hG : GoodH N S M) (hx : WordsAt w xv rs) (hrs : ∀ x, x ∈ rs → x < 18446744073709551616) (hl : rs.length ≤ 1000000) :
    Calls Tryz.prog 30 #[.pointer (some ⟨h, 0, none⟩), xv] w fun e w' => ((Bad S M rs ∧ e = .returned (.tuple #[.pointer none, .int .i64 0, .int .i64 13])) ∨ (¬ Bad S M rs ∧ ∃ b T, e = .returned (.tuple #[.pointer (some ⟨b, 0, none⟩), .int .i64 (ksum M T N : Int), .int .i64 0]) ∧ BitsAt w' w.heap.size b N T ∧ ∀ a, T a = true ↔ Wd S M rs (a * 2) ∧ S a = true)) ∧ Below w.heap.size w w' := by
  obtain ⟨a, cap, rfl, h1, h2, h3⟩ := hx.at
  refine reach_cl B0 h N free S M rs a cap w H0 hG (fun i hi => ?_) h1 hl h2
  have e : rs.getD i 1 = rs.getD i 0 := by rw [List.getD_eq_getElem?_getD, List.getD_eq_getElem?_getD, List.getElem?_eq_getElem hi]; rfl
  rw [e]
  refine ⟨?_, h3 i hi⟩
  rw [List.getD_eq_getElem?_getD, List.getElem?_eq_getElem hi]
  exact hrs _ (List.getElem_mem _)
/-- the three results, and what they tell -/
def Told3 (S : Nat → Bool) (M : Nat → Nat) (rs : List Nat) (N B : Nat) (w' : World) (s : Value) (n c : Int) : Prop :=
  (Bad S M rs ∧ c = 13) ∨ (¬ Bad S M rs ∧ c = 0 ∧ ∃ b T, s = .pointer (some ⟨b, 0, none⟩) ∧ n = (ksum M T N : Int) ∧ BitsAt w' B b N T ∧ ∀ a, T a = true ↔ Wd S M rs (a * 2) ∧ S a = true)
theorem Told3.later {S : Nat → Bool} {M : Nat → Nat} {rs : List Nat} {N B : Nat} {w w' : World} {s : Value} {n c : Int} (h : Told3 S M rs N B w s n c) (hb : Below w.heap.size w w') : Told3 S M rs N B w' s n c := by
  rcases h with h | ⟨h1, h2, b, T, h3, h4, h5, h6⟩
  · exact Or.inl h
  · exact Or.inr ⟨h1, h2, b, T, h3, h4, h5.later hb, h6⟩
theorem reach_told (B0 h N free : Nat) (S : Nat → Bool) (M : Nat → Nat) (rs : List Nat) (xv : Value) (w : World) (H0 : HeapAt w B0 h N free S M) (hG : GoodH N S M) (hx : WordsAt w xv rs) (hrs : ∀ x, x ∈ rs → x < 18446744073709551616) (hl : rs.length ≤ 1000000) :
    Calls Tryz.prog 30 #[.pointer (some ⟨h, 0, none⟩), xv] w fun e w' => ∃ (p : Option Addr) (n c : Int), e = .returned (.tuple #[.pointer p, .int .i64 n, .int .i64 c]) ∧ Told3 S M rs N w.heap.size w' (.pointer p) n c ∧ Below w.heap.size w w' := by
  refine (reach_words B0 h N free S M rs xv w H0 hG hx hrs hl).mono ?_
  rintro e w' ⟨⟨h1, rfl⟩ | ⟨h1, b, T, rfl, h2, h3⟩, hg⟩
  · exact ⟨_, _, _, rfl, Or.inl ⟨h1, rfl⟩, hg⟩
  · exact ⟨_, _, _, rfl, Or.inr ⟨h1, rfl, b, T, rfl, rfl, h2, h3⟩, hg⟩
theorem bad_same {S : Nat → Bool} {M : Nat → Nat} {R R' : List Nat} (h : ∀ x, x ∈ R ↔ x ∈ R') : Bad S M R ↔ Bad S M R' := ⟨Bad.mono fun x hx => (h x).1 hx, Bad.mono fun x hx => (h x).2 hx⟩
end Go.Proofs.YtibopjjicfiimaaGreatDoor
namespace Go.Proofs.YtibopjjicfiimaaGreatDoor
open Go.RowKit
set_option linter.unusedVariables false
structure InvB (N : Nat) (S : Nat → Bool) (M : Nat → Nat) (R : List Nat) (s : StQ) : Prop where
  met : ∀ a, s.1.1 a = true → Wd S M R (a * 2) ∧ S a = true
  wait : ∀ x, x ∈ s.1.2.1 → ∃ a, x = a * 2 ∧ s.1.1 a = true
  mem : ∀ a, s.1.1 a = true → a * 2 ∈ s.1.2.1
  loose : s.2 = true → Bad S M R
  sum : s.1.2.2 = ksum M s.1.1 N
  len : s.1.2.1.length = cnt s.1.1 N
/-- it only grows -/
def ExtQ (s t : StQ) : Prop := (∀ j, s.1.1 j = true → t.1.1 j = true) ∧ s.1.2.1 <+: t.1.2.1 ∧ (s.2 = true → t.2 = true)
theorem ExtQ.refl (s : StQ) : ExtQ s s := ⟨fun _ h => h, List.prefix_refl _, fun h => h⟩
theorem ExtQ.trans {s t u : StQ} (h : ExtQ s t) (k : ExtQ t u) : ExtQ s u := ⟨fun j hj => k.1 j (h.1 j hj), h.2.1.trans k.2.1, fun hq => k.2.2 (h.2.2 hq)⟩
theorem leadQ_b {N : Nat} {S : Nat → Bool} {M : Nat → Nat} {R : List Nat} {s : StQ} {x : Nat} (hG : GoodH N S M) (h : InvB N S M R s) (hx : Wd S M R x) :
    InvB N S M R (leadQ N S M s x) ∧ ExtQ s (leadQ N S M s x) ∧ ((leadQ N S M s x).2 = false → Res (leadQ N S M s x).1.1 x) := by
  unfold leadQ
  by_cases h0 : x = 0 ∨ x % 2 = 1
  · rw [if_pos h0]
    exact ⟨h, ExtQ.refl _, fun hq => (by rcases h0 with h0 | h0; exact Or.inl h0; exact Or.inr (Or.inl h0))⟩
  · rw [if_neg h0]
    by_cases hobj : x / 2 < 16777216 ∧ S (x / 2) = true
    · rw [if_pos hobj]
      obtain ⟨a, rfl⟩ : ∃ a, x = a * 2 := ⟨x / 2, by omega⟩
      have e2 : a * 2 / 2 = a := by omega
      rw [e2] at hobj
      have haN : a < N := by have := (hG a hobj.2).1.2.1; omega
      by_cases hT : s.1.1 a = true
      · have e : lead1 N M s.1 (a * 2) = s.1 := by unfold lead1; rw [if_neg (by omega), e2, if_pos hT]
        rw [e]
        exact ⟨h, ExtQ.refl _, fun hq => Or.inr (Or.inr (by rw [e2]; exact hT))⟩
      · have hT' : s.1.1 a = false := by simpa using hT
        have e : lead1 N M s.1 (a * 2) = (setS N s.1.1 (a : Int) true, s.1.2.1 ++ [a * 2], s.1.2.2 + 2 + cz M a) := by unfold lead1; rw [if_neg (by omega), e2, if_neg hT]
        rw [e]
        have hmono : ∀ j, s.1.1 j = true → setS N s.1.1 (a : Int) true j = true := fun j hj => (setT N a _ haN j).2 (Or.inr hj)
        refine ⟨⟨fun j hj => ?_, fun y hy => ?_, fun j hj => ?_, h.loose, ?_, ?_⟩, ⟨hmono, List.prefix_append _ _, fun hq => hq⟩, fun hq => Or.inr (Or.inr (by rw [e2]; exact (setT N a _ haN a).2 (Or.inl rfl)))⟩
        · rcases (setT N a _ haN j).1 hj with rfl | hj
          · exact ⟨hx, hobj.2⟩
          · exact h.met j hj
        · rcases List.mem_append.1 hy with hy | hy
          · obtain ⟨c, hc, ht⟩ := h.wait y hy
            exact ⟨c, hc, hmono c ht⟩
          · exact ⟨a, by simpa using hy, (setT N a _ haN a).2 (Or.inl rfl)⟩
        · rcases (setT N a _ haN j).1 hj with rfl | hj
          · exact List.mem_append.2 (Or.inr (by simp))
          · exact List.mem_append.2 (Or.inl (h.mem j hj))
        · show s.1.2.2 + 2 + cz M a = ksum M (setS N s.1.1 (a : Int) true) N
          rw [ksum_set N a N M s.1.1 haN hT', if_pos haN, ← h.sum]; omega
        · show (s.1.2.1 ++ [a * 2]).length = cnt (setS N s.1.1 (a : Int) true) N
          rw [cntset N a s.1.1 haN hT', List.length_append, List.length_singleton, h.len]
    · rw [if_neg hobj]
      exact ⟨⟨h.met, h.wait, h.mem, fun _ => ⟨x, hx, by omega, by omega, hobj⟩, h.sum, h.len⟩, ⟨fun _ hj => hj, List.prefix_refl _, fun _ => rfl⟩, fun hq => (by cases hq)⟩
theorem allNQ_b {N : Nat} {S : Nat → Bool} {M : Nat → Nat} {R : List Nat} {s : StQ} {a : Nat} (hG : GoodH N S M) (h : InvB N S M R s) (i : Nat) (hw : ∀ y, y ∈ M a :: (List.range i).map (fun j => M (a + 2 + j)) → Wd S M R y) :
    InvB N S M R (allNQ N S M s a i) ∧ ExtQ s (allNQ N S M s a i) ∧ ((allNQ N S M s a i).2 = false → ∀ y, y ∈ M a :: (List.range i).map (fun j => M (a + 2 + j)) → Res (allNQ N S M s a i).1.1 y) := by
  induction i with
  | zero =>
    obtain ⟨h1, h2, h3⟩ := leadQ_b hG h (hw (M a) (by simp))
    refine ⟨h1, h2, fun hq y hy => ?_⟩
    have : y = M a := by simpa using hy
    rw [this]; exact h3 hq
  | succ i ih =>
    obtain ⟨g1, g2, g3⟩ := ih (fun y hy => hw y (by
      rw [List.range_succ, List.map_append]
      rcases List.mem_cons.1 hy with h | h
      · exact List.mem_cons.2 (Or.inl h)
      · exact List.mem_cons.2 (Or.inr (List.mem_append.2 (Or.inl h)))))
    obtain ⟨h1, h2, h3⟩ := leadQ_b hG g1 (hw (M (a + 2 + i)) (by rw [List.range_succ, List.map_append]; simp))
    refine ⟨h1, g2.trans h2, fun hq y hy => ?_⟩
    have hq0 : (allNQ N S M s a i).2 = false := by
      cases hc : (allNQ N S M s a i).2 with
      | false => rfl
      | true => have := h2.2.2 hc; rw [show (allNQ N S M s a (i + 1)).2 = (leadQ N S M (allNQ N S M s a i) (M (a + 2 + i))).2 from rfl] at hq; rw [hq] at this; cases this
    rw [List.range_succ, List.map_append] at hy
    rcases List.mem_cons.1 hy with hy | hy
    · exact (g3 hq0 y (List.mem_cons.2 (Or.inl hy))).mono h2.1
    · rcases List.mem_append.1 hy with hy | hy
      · exact (g3 hq0 y (List.mem_cons.2 (Or.inr hy))).mono h2.1
      · have : y = M (a + 2 + i) := by simpa using hy
        rw [this]; exact h3 hq
/-- the states of the walk, object by object -/
def ordQ (N : Nat) (S : Nat → Bool) (M : Nat → Nat) (rs : List Nat) : Nat → StQ
  | 0 => rootsQ N S M rs rs.length
  | i + 1 => if i < (ordQ N S M rs i).1.2.1.length then allQ N S M (ordQ N S M rs i) ((ordQ N S M rs i).1.2.1.getD i 0 / 2) else ordQ N S M rs i
structure OrdI (N : Nat) (S : Nat → Bool) (M : Nat → Nat) (R : List Nat) (s : StQ) (i : Nat) : Prop where
  inv : InvB N S M R s
  roots : s.2 = false → ∀ x, x ∈ R → Res s.1.1 x
  done : s.2 = false → ∀ j a, j < i → s.1.2.1[j]? = some (a * 2) → ∀ y, y ∈ wordsA M a → Res s.1.1 y
theorem roots_b {N : Nat} {S : Nat → Bool} {M : Nat → Nat} {R : List Nat} (hG : GoodH N S M) (i : Nat) (hi : i ≤ R.length) :
    InvB N S M R (rootsQ N S M R i) ∧ ((rootsQ N S M R i).2 = false → ∀ j, j < i → Res (rootsQ N S M R i).1.1 (R.getD j 1)) := by
  induction i with
  | zero =>
    have hz : ∀ n, ksum M (fun _ => false) n = 0 := fun n => by
      induction n with
      | zero => rfl
      | succ n ih => unfold ksum; rw [ih]; rfl
    have hc : ∀ n, cnt (fun _ => false) n = 0 := fun n => by
      induction n with
      | zero => rfl
      | succ n ih => unfold cnt; rw [ih]; rfl
    exact ⟨⟨fun a h => (by cases h), fun x h => (by cases h), fun a h => (by cases h), fun h => (by cases h), (hz N).symm, (hc N).symm⟩, fun _ j hj => (by omega)⟩
  | succ i ih =>
    obtain ⟨h1, h2⟩ := ih (by omega)
    have hmem : R.getD i 1 ∈ R := by
      rw [List.getD_eq_getElem?_getD, List.getElem?_eq_getElem (by omega)]
      exact List.getElem_mem (by omega)
    obtain ⟨g1, g2, g3⟩ := leadQ_b hG h1 (Wd.root hmem)
    refine ⟨g1, fun hq j hj => ?_⟩
    by_cases hji : j = i
    · subst hji; exact g3 hq
    · have hq0 : (rootsQ N S M R i).2 = false := by
        cases hc : (rootsQ N S M R i).2 with
        | false => rfl
        | true => have := g2.2.2 hc; rw [show (rootsQ N S M R (i + 1)).2 = (leadQ N S M (rootsQ N S M R i) (R.getD i 1)).2 from rfl] at hq; rw [hq] at this; cases this
      exact (h2 hq0 j (by omega)).mono g2.1
theorem ord_inv {N : Nat} {S : Nat → Bool} {M : Nat → Nat} {R : List Nat} (hG : GoodH N S M) (i : Nat) : OrdI N S M R (ordQ N S M R i) i := by
  induction i with
  | zero =>
    obtain ⟨h1, h2⟩ := roots_b hG R.length (Nat.le_refl _)
    refine ⟨h1, fun hq x hx => ?_, fun _ j a hj => (by omega)⟩
    obtain ⟨j, hj, rfl⟩ := List.getElem_of_mem hx
    have := h2 hq j hj
    rw [List.getD_eq_getElem?_getD, List.getElem?_eq_getElem hj] at this
    exact this
  | succ i ih =>
    unfold ordQ
    by_cases hl : i < (ordQ N S M R i).1.2.1.length
    · rw [if_pos hl]
      obtain ⟨s, hs⟩ : ∃ s, ordQ N S M R i = s := ⟨_, rfl⟩
      rw [hs] at ih hl ⊢
      have hgi := List.getElem?_eq_getElem hl
      obtain ⟨a, ha, hTa⟩ := ih.inv.wait _ (List.getElem_mem hl)
      rw [ha] at hgi
      rw [List.getD_eq_getElem?_getD, hgi]
      show OrdI N S M R (allQ N S M s (a * 2 / 2)) (i + 1)
      rw [show a * 2 / 2 = a by omega]
      obtain ⟨hWa, hSa⟩ := ih.inv.met a hTa
      have hw : ∀ y, y ∈ M a :: (List.range (if hK (M (a + 1)) = 2 then 0 else (hS (M (a + 1))).toNat)).map (fun j => M (a + 2 + j)) → Wd S M R y := fun y hy => Wd.step hWa hSa (by rw [wordsA_eq]; exact hy)
      obtain ⟨g1, g2, g3⟩ := allNQ_b hG ih.inv (if hK (M (a + 1)) = 2 then 0 else (hS (M (a + 1))).toNat) hw
      have hq0 : (allQ N S M s a).2 = false → s.2 = false := fun hq => by
        cases hc : s.2 with
        | false => rfl
        | true => have := g2.2.2 hc; rw [show (allQ N S M s a).2 = (allNQ N S M s a _).2 from rfl] at hq; rw [hq] at this; cases this
      refine ⟨g1, fun hq x hx => (ih.roots (hq0 hq) x hx).mono g2.1, fun hq j c hj hjc y hy => ?_⟩
      obtain ⟨r, hr⟩ := g2.2.1
      have hjl : j < s.1.2.1.length := by omega
      have hjc' : s.1.2.1[j]? = some (c * 2) := by
        rw [show (allQ N S M s a).1.2.1 = s.1.2.1 ++ r from hr.symm, List.getElem?_append_left hjl] at hjc
        exact hjc
      by_cases hji : j = i
      · subst hji
        rw [hgi] at hjc'
        have : c = a := by injection hjc' with h; omega
        subst this
        rw [wordsA_eq] at hy
        exact g3 hq y hy
      · exact (ih.done (hq0 hq) j c (by omega) hjc' y hy).mono g2.1
    · rw [if_neg hl]
      refine ⟨ih.inv, ih.roots, fun hq j c hj hjc y hy => ?_⟩
      have hjl := (List.getElem?_eq_some_iff.1 hjc).1
      exact ih.done hq j c (by omega) hjc y hy
theorem ord_ext {N : Nat} {S : Nat → Bool} {M : Nat → Nat} {R : List Nat} (hG : GoodH N S M) (i : Nat) : ExtQ (ordQ N S M R i) (ordQ N S M R (i + 1)) := by
  conv => rhs; unfold ordQ
  by_cases hl : i < (ordQ N S M R i).1.2.1.length
  · rw [if_pos hl]
    have ih := ord_inv (R := R) hG i
    have hgi := List.getElem?_eq_getElem hl
    obtain ⟨a, ha, hTa⟩ := ih.inv.wait _ (List.getElem_mem hl)
    obtain ⟨hWa, hSa⟩ := ih.inv.met a hTa
    rw [ha] at hgi
    rw [List.getD_eq_getElem?_getD, hgi]
    show ExtQ _ (allQ N S M _ (a * 2 / 2))
    rw [show a * 2 / 2 = a by omega]
    exact (allNQ_b hG ih.inv _ (fun y hy => Wd.step hWa hSa (by rw [wordsA_eq]; exact hy))).2.1
  · rw [if_neg hl]; exact ExtQ.refl _
/-- at the end: all that is led to, each once -/
theorem ord_end {N : Nat} {S : Nat → Bool} {M : Nat → Nat} {R : List Nat} {s : StQ} {m : Nat} (hG : GoodH N S M) (hN : N ≤ 16777216) (h : OrdI N S M R s m) (hl : s.1.2.1.length = m) (hq : s.2 = false) :
    ¬ Bad S M R ∧ ∀ a, s.1.1 a = true ↔ Wd S M R (a * 2) ∧ S a = true := by
  have key : ∀ x, Wd S M R x → Res s.1.1 x := by
    intro x hx
    induction hx with
    | root hx => exact h.roots hq _ hx
    | @step a y hw hs hy ih =>
      have ha1 := (hG a hs).1.1
      have hT : s.1.1 a = true := by
        rcases ih with h | h | h
        · omega
        · omega
        · rw [show a * 2 / 2 = a by omega] at h; exact h
      obtain ⟨j, hj, hje⟩ := List.getElem_of_mem (h.inv.mem a hT)
      exact h.done hq j a (by omega) (by rw [List.getElem?_eq_getElem hj, hje]) y hy
  have h2 : ∀ a, s.1.1 a = true ↔ Wd S M R (a * 2) ∧ S a = true := by
    intro a
    refine ⟨h.inv.met a, fun ⟨h1, h2⟩ => ?_⟩
    have ha1 := (hG a h2).1.1
    rcases key _ h1 with h | h | h
    · omega
    · omega
    · rw [show a * 2 / 2 = a by omega] at h; exact h
  refine ⟨?_, h2⟩
  rintro ⟨y, hy, y0, y1, y2⟩
  rcases key y hy with h3 | h3 | h3
  · exact y0 h3
  · omega
  · have h4 := (h.inv.met _ h3).2
    have h5 := (hG _ h4).1.2.1
    exact y2 ⟨by omega, h4⟩
end Go.Proofs.YtibopjjicfiimaaGreatDoor
