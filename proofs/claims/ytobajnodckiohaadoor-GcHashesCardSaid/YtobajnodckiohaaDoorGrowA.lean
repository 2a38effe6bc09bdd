/- Words that are appended; what words of memory lead to. -/
import Derived.Test.YtobajnodckiohaaDoorLayOpen
import Derived.Test.YtobajnodckiohaaDoorMarkN
import Derived.Test.YtobajnodckiohaaDoorPackSame
import Derived.Test.YtobajnodckiohaaDoorLaidTab
import Derived.Laws.AppendOwnNone
namespace Go.Proofs.YtobajnodckiohaaDoor
open Go.RowKit
set_option linter.unusedVariables false
theorem wpList_append_words {P : Program} {w : World} {ops : Array Oper} {rest : List Oper} {o : Oper} {a : Act} {Q : Exit → Act → World → Prop} (hgd : o.guard = none) (s x : Operand) (t : TypeId)
    (ho : o.op = .call { callee := .builtin .append, args := #[s, x], argTypes := #[t, t] })
    (base : Nat) (e : TypeId) (i : TypeInfo) (ht : P.underlying t = some (.slice e)) (hi : P.info? e = some i) (hz : i.zero = some (.int .u64 0)) (hsize : i.size = 1) (hby : i.bytes = 8)
    (v : Value) (n : Nat) (xs : List Value) (hs : a.eval s = v) (hown : w.ownsRow base e 1 v n xs)
    (xv : Value) (rs : List Nat) (hx : a.eval x = xv) (hw : WordsAt w xv rs) (h63 : n + rs.length ≤ 1000) (hbase : base ≤ w.heap.size)
    (h : ∀ v' w', w'.ownsRow base e 1 v' (n + rs.length) (xs ++ wordVals rs) → w.grownBy w' v.ownBlock → wpList P ops Q rest (a.put o.dst v') w') : wpList P ops Q (o :: rest) a w := by
  obtain ⟨ad, cap, rfl, h1, h2, h3, h4⟩ := hw
  rcases h3 with h3 | ⟨b, q, rfl, hc⟩
  · have hr : rs.length = 0 := by rw [← wordVals_length, h3]; rfl
    have hr0 : rs = [] := List.length_eq_zero_iff.1 hr
    subst hr0
    cases ad with
    | none =>
      obtain rfl : cap = 0 := h4 rfl
      exact wpList_append_own_none hgd s x t ho base e i 1 ht hi v n xs hs hown hx (h v w (by simpa [wordVals] using hown) (World.grownBy.refl _ _))
    | some ad =>
      exact wpList_append_own w hgd s x t ho base e i (.int .u64 0) 1 8 ht hi hz hsize hby rfl (by omega) v n xs hs hown ad 0 cap [] hx rfl (fun j u hj => by simp at hj) (fun u hu => by simp at hu) (by unfold maxLen; omega) (by omega) hbase
        (fun v' w' h1 h2 _ => h v' w' (by simpa [wordVals] using h1) h2)
  · exact wpList_append_own w hgd s x t ho base e i (.int .u64 0) 1 8 ht hi hz hsize hby rfl (by omega) v n xs hs hown ⟨b, q, none⟩ rs.length cap (wordVals rs) hx (by rw [wordVals_length]; omega) (RowAt.add (Or.inr ⟨b, q, rfl, hc⟩))
      (fun u hu => by simp only [wordVals, List.mem_map] at hu; obtain ⟨x, _, rfl⟩ := hu; rfl) (by unfold maxLen; omega) (by omega) hbase (fun v' w' h1 h2 _ => h v' w' h1 h2)
theorem reach_words (B0 h N free : Nat) (S : Nat → Bool) (M : Nat → Nat) (rs : List Nat) (xv : Value) (w : World) (H0 : HeapAt w B0 h N free S M) (hG : GoodH N S M) (hx : WordsAt w xv rs) (hrs : ∀ x, x ∈ rs → x < 18446744073709551616) (hl : rs.length ≤ 1000000) :
    Calls Tryd.prog 28 #[.pointer (some ⟨h, 0, none⟩), xv] w fun e w' => ((Bad S M rs ∧ e = .returned (.tuple #[.pointer none, .int .i64 0, .int .i64 13])) ∨ (¬ Bad S M rs ∧ ∃ b T, e = .returned (.tuple #[.pointer (some ⟨b, 0, none⟩), .int .i64 (ksum M T N : Int), .int .i64 0]) ∧ BitsAt w' w.heap.size b N T ∧ ∀ a, T a = true ↔ Wd S M rs (a * 2) ∧ S a = true)) ∧ Below w.heap.size w w' := by
  obtain ⟨a, cap, rfl, h1, h2, h3⟩ := hx.at
  refine reach_cl B0 h N free S M rs a cap w H0 hG (fun i hi => ?_) h1 hl h2
  have e : rs.getD i 1 = rs.getD i 0 := by rw [List.getD_eq_getElem?_getD, List.getD_eq_getElem?_getD, List.getElem?_eq_getElem hi]; rfl
  rw [e]
  refine ⟨?_, h3 i hi⟩
  rw [List.getD_eq_getElem?_getD, List.getElem?_eq_getElem hi]
  exact hrs _ (List.getElem_mem _)
/-- the three results, and what they tell -/
def Told3 (S : Nat → Bool) (M : Nat → Nat) (rs : List Nat) (N B : Nat) (w' : World) (s : Value) (n c : Int) : Prop :=
  (Bad S M rs ∧ c = 13) ∨ (¬ Bad S M rs ∧ c = 0 ∧ ∃ b T, s = .pointer (some ⟨b, 0, none⟩) ∧ n = (ksum M T N : Int) ∧ BitsAt w' B b N T ∧ ∀ a, T a = true ↔ Wd S M rs (a * 2) ∧ S a = true)
theorem Told3.later {S : Nat → Bool} {M : Nat → Nat} {rs : List Nat} {N B : Nat} {w w' : World} {s : Value} {n c : Int} (h : Told3 S M rs N B w s n c) (hb : Below w.heap.size w w') : Told3 S M rs N B w' s n c := by
  rcases h with h | ⟨h1, h2, b, T, h3, h4, h5, h6⟩
  · exact Or.inl h
  · exact Or.inr ⟨h1, h2, b, T, h3, h4, h5.later hb, h6⟩
theorem reach_told (B0 h N free : Nat) (S : Nat → Bool) (M : Nat → Nat) (rs : List Nat) (xv : Value) (w : World) (H0 : HeapAt w B0 h N free S M) (hG : GoodH N S M) (hx : WordsAt w xv rs) (hrs : ∀ x, x ∈ rs → x < 18446744073709551616) (hl : rs.length ≤ 1000000) :
    Calls Tryd.prog 28 #[.pointer (some ⟨h, 0, none⟩), xv] w fun e w' => ∃ (p : Option Addr) (n c : Int), e = .returned (.tuple #[.pointer p, .int .i64 n, .int .i64 c]) ∧ Told3 S M rs N w.heap.size w' (.pointer p) n c ∧ Below w.heap.size w w' := by
  refine (reach_words B0 h N free S M rs xv w H0 hG hx hrs hl).mono ?_
  rintro e w' ⟨⟨h1, rfl⟩ | ⟨h1, b, T, rfl, h2, h3⟩, hg⟩
  · exact ⟨_, _, _, rfl, Or.inl ⟨h1, rfl⟩, hg⟩
  · exact ⟨_, _, _, rfl, Or.inr ⟨h1, rfl, b, T, rfl, rfl, h2, h3⟩, hg⟩
theorem bad_same {S : Nat → Bool} {M : Nat → Nat} {R R' : List Nat} (h : ∀ x, x ∈ R ↔ x ∈ R') : Bad S M R ↔ Bad S M R' := ⟨Bad.mono fun x hx => (h x).1 hx, Bad.mono fun x hx => (h x).2 hx⟩
end Go.Proofs.YtobajnodckiohaaDoor
