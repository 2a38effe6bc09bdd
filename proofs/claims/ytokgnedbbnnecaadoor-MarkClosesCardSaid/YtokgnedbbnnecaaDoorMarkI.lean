/- A chain of objects: what is met of it, step for step (no program in sight). A chain of objects: all of it is reached, in as many steps; and the law's fixed fact. The law's fixed fact of layer 5. -/
import Derived.Test.YtokgnedbbnnecaaDoorMarkF
namespace Go.Proofs.YtokgnedbbnnecaaDoor
open Go.RowKit
set_option linter.unusedVariables false
/-- a class, and a chain of objects of one slot each, that leads back to the first -/
def Chain (n : Nat) (S : Nat → Bool) (M : Nat → Nat) : Prop :=
  (S 2 = true ∧ M 2 = 4 ∧ M 3 = 0) ∧ ∀ j, j < n → S (4 + 3 * j) = true ∧ M (4 + 3 * j) = 4 ∧ M (4 + 3 * j + 1) = 4294967297 ∧ M (4 + 3 * j + 2) = if j = 0 then 1 else (1 + 3 * j) * 2
theorem setS_nat {N a : Nat} (T : Nat → Bool) (h : a < N) : setS N T (a : Int) true = fun x => decide (x = a ∨ T x = true) := by
  funext x
  unfold setS
  by_cases hx : x = a
  · rw [if_pos ⟨by omega, by omega, by omega⟩]; simp [hx]
  · rw [if_neg (by omega)]; simp [hx]
theorem pack00 : (packZ 0 0 0 false).toNat = 0 := by decide
theorem pack11 : (packZ 1 1 0 false).toNat = 4294967297 := by decide
theorem chain_start (N : Nat) (hN : 4 ≤ N) (S : Nat → Bool) (M : Nat → Nat) : Chain 0 (setS N S ((2 : Nat) : Int) true) (fillM (put2 M 2 4 (packZ 0 ((0 : Nat) : Int) 0 false).toNat) (2 + 2) 0 1) := by
  rw [fillM_zero, setS_nat S (by omega), show (packZ 0 ((0 : Nat) : Int) 0 false).toNat = 0 from pack00]
  refine ⟨⟨by simp, by unfold put2; simp, by unfold put2; simp⟩, fun j hj => by omega⟩
theorem chain_keep (N n fr v : Nat) (S : Nat → Bool) (M : Nat → Nat) (h : Chain n S M) (hf : 4 + 3 * n ≤ fr) (hN : fr < N) (q : Nat) : Chain n (setS N S (fr : Int) true) (fillM (put2 M fr 4 q) (fr + 2) 1 v) := by
  obtain ⟨⟨h1, h2, h3⟩, h4⟩ := h
  rw [setS_nat S hN]
  refine ⟨⟨by simp [h1], ?_, ?_⟩, fun j hj => ?_⟩
  · unfold fillM put2; rw [if_neg (by omega), if_neg (by omega), if_neg (by omega), h2]
  · unfold fillM put2; rw [if_neg (by omega), if_neg (by omega), if_neg (by omega), h3]
  · obtain ⟨a1, a2, a3, a4⟩ := h4 j hj
    refine ⟨by simp [a1], ?_, ?_, ?_⟩
    · unfold fillM put2; rw [if_neg (by omega), if_neg (by omega), if_neg (by omega), a2]
    · unfold fillM put2; rw [if_neg (by omega), if_neg (by omega), if_neg (by omega), a3]
    · unfold fillM put2; rw [if_neg (by omega), if_neg (by omega), if_neg (by omega), a4]
theorem chain_next (N n : Nat) (S : Nat → Bool) (M : Nat → Nat) (h : Chain n S M) (hN : 4 + 3 * n < N) : Chain (n + 1) (setS N S ((4 + 3 * n : Nat) : Int) true) (fillM (put2 M (4 + 3 * n) 4 (packZ 1 ((1 : Nat) : Int) 0 false).toNat) (4 + 3 * n + 2) 1 (if n = 0 then 1 else (1 + 3 * n) * 2)) := by
  rw [show (packZ 1 ((1 : Nat) : Int) 0 false).toNat = 4294967297 from pack11]
  have hk := chain_keep N n (4 + 3 * n) (if n = 0 then 1 else (1 + 3 * n) * 2) S M h (Nat.le_refl _) hN 4294967297
  refine ⟨hk.1, fun j hj => ?_⟩
  by_cases hjn : j < n
  · exact hk.2 j hjn
  · have : j = n := by omega
    subst this
    rw [setS_nat S hN]
    refine ⟨by simp, ?_, ?_, ?_⟩
    · unfold fillM put2; rw [if_neg (by omega), if_pos rfl]
    · unfold fillM put2; rw [if_neg (by omega), if_neg (by omega), if_pos rfl]
    · unfold fillM put2; rw [if_pos (by omega)]
theorem unOK40 : UnOK ((4 : Nat) : Int) ((0 : Nat) : Int) := by unfold UnOK hS hK; decide
theorem unOK41 : UnOK ((4 : Nat) : Int) ((4294967297 : Nat) : Int) := by unfold UnOK hS hK; decide
theorem oko_class {N n : Nat} {S : Nat → Bool} {M : Nat → Nat} (h : Chain n S M) (hN : 4 ≤ N) : OKO N S M 2 := by
  obtain ⟨⟨h1, h2, h3⟩, -⟩ := h
  refine ⟨by omega, hN, h1, ?_⟩
  rw [h2, show M (2 + 1) = 0 from h3]; exact unOK40
theorem oko_obj {N n j : Nat} {S : Nat → Bool} {M : Nat → Nat} (h : Chain n S M) (hN : 4 + 3 * n ≤ N) (hj : j < n) : OKO N S M (4 + 3 * j) := by
  obtain ⟨-, h4⟩ := h
  obtain ⟨a1, a2, a3, a4⟩ := h4 j hj
  refine ⟨by omega, by omega, a1, ?_⟩
  rw [a2, a3]; exact unOK41
theorem okw_class {N n : Nat} {S : Nat → Bool} {M : Nat → Nat} (h : Chain n S M) (hN : 4 ≤ N) : OKW N S M 4 := ⟨by omega, Or.inr ⟨2, rfl, oko_class h hN⟩⟩
theorem okw_obj {N n j : Nat} {S : Nat → Bool} {M : Nat → Nat} (h : Chain n S M) (hN : 4 + 3 * n ≤ N) (hN2 : N ≤ 16777216) (hj : j < n) : OKW N S M ((4 + 3 * j) * 2) := ⟨by omega, Or.inr ⟨4 + 3 * j, rfl, oko_obj h hN hj⟩⟩
theorem okf_class {N n : Nat} {S : Nat → Bool} {M : Nat → Nat} (h : Chain n S M) (hN : 4 ≤ N) : OKF N S M 2 := by
  have e3 : M (2 + 1) = 0 := h.1.2.2
  have e4 : hS ((0 : Nat) : Int) = 0 := by decide
  refine ⟨oko_class h hN, by rw [e3]; decide, by rw [e3, e4]; simpa using hN, by rw [h.1.2.1]; exact okw_class h hN, fun i hi => ?_⟩
  rw [e3, e4] at hi; simp at hi
theorem okf_obj {N n j : Nat} {S : Nat → Bool} {M : Nat → Nat} (h : Chain n S M) (hN : 4 + 3 * n ≤ N) (hN2 : N ≤ 16777216) (hj : j < n) : OKF N S M (4 + 3 * j) := by
  obtain ⟨a1, a2, a3, a4⟩ := h.2 j hj
  have e4 : hS ((4294967297 : Nat) : Int) = 1 := by decide
  refine ⟨oko_obj h hN hj, by rw [a3]; decide, by rw [a3, e4]; simp; omega, by rw [a2]; exact okw_class h (by omega), fun i hi => ?_⟩
  rw [a3, e4] at hi
  have : i = 0 := by simpa using hi
  subst this
  rw [Nat.add_zero, a4]
  by_cases hj0 : j = 0
  · rw [if_pos hj0]; exact ⟨by omega, Or.inl (by omega)⟩
  · rw [if_neg hj0]
    have := okw_obj (j := j - 1) h hN hN2 (by omega)
    rw [show 4 + 3 * (j - 1) = 1 + 3 * j by omega] at this
    exact this
theorem cz_class {n : Nat} {S : Nat → Bool} {M : Nat → Nat} (h : Chain n S M) : cz M 2 = 0 := by
  unfold cz
  rw [show M (2 + 1) = 0 from h.1.2.2, h.1.2.1]; decide
theorem cz_obj {n j : Nat} {S : Nat → Bool} {M : Nat → Nat} (h : Chain n S M) (hj : j < n) : cz M (4 + 3 * j) = 1 := by
  obtain ⟨a1, a2, a3, a4⟩ := h.2 j hj
  unfold cz
  rw [a3, a2]; decide
theorem lead1_odd {N : Nat} {M : Nat → Nat} {s : St} {x : Nat} (h : x % 2 = 1) : lead1 N M s x = s := by unfold lead1; rw [if_pos h]
theorem lead1_old {N : Nat} {M : Nat → Nat} {s : St} {a : Nat} (h : s.1 a = true) : lead1 N M s (a * 2) = s := by
  unfold lead1; rw [if_neg (by omega), show a * 2 / 2 = a by omega, if_pos h]
theorem lead1_new {N : Nat} {M : Nat → Nat} {s : St} {a : Nat} (h : s.1 a = false) (ha : a < N) : lead1 N M s (a * 2) = ((fun x => decide (x = a ∨ s.1 x = true)), s.2.1 ++ [a * 2], s.2.2 + 2 + cz M a) := by
  unfold lead1; rw [if_neg (by omega), show a * 2 / 2 = a by omega, if_neg (by simp [h]), setS_nat _ ha]
theorem all_class {N n : Nat} {S : Nat → Bool} {M : Nat → Nat} {s : St} (h : Chain n S M) (hs : s.1 2 = true) : allM N M s 2 = s := by
  unfold allM
  rw [show M (2 + 1) = 0 from h.1.2.2, show (hS ((0 : Nat) : Int)).toNat = 0 by decide]
  unfold allN
  rw [h.1.2.1]; exact lead1_old (a := 2) hs
theorem all_obj {N n j : Nat} {S : Nat → Bool} {M : Nat → Nat} {s : St} (h : Chain n S M) (hj : j < n) : allM N M s (4 + 3 * j) = lead1 N M (lead1 N M s (2 * 2)) (if j = 0 then 1 else (1 + 3 * j) * 2) := by
  obtain ⟨a1, a2, a3, a4⟩ := h.2 j hj
  unfold allM
  rw [a3, show (hS ((4294967297 : Nat) : Int)).toNat = 1 by decide]
  unfold allN allN
  rw [a2, Nat.add_zero, a4]
def lo (n i : Nat) : Nat := 4 + 3 * (n - 1 - i)
def Tc (n i : Nat) : Nat → Bool := fun x => decide ((1 ≤ i ∧ x = 2) ∨ (x % 3 = 1 ∧ 4 + 3 * (n - 1 - i) ≤ x ∧ x < 4 + 3 * n))
theorem tc_next {n i : Nat} (h1 : 1 ≤ i) (h : i + 1 < n) : (fun x => decide (x = lo n (i + 1) ∨ Tc n i x = true)) = Tc n (i + 1) := by
  funext x; unfold Tc lo; simp only [decide_eq_true_eq, decide_eq_decide]; omega
theorem tc_first {n : Nat} (h : 1 < n) : (fun x => decide (x = lo n 1 ∨ (fun x => decide (x = 2 ∨ Tc n 0 x = true)) x = true)) = Tc n 1 := by
  funext x; unfold Tc lo; simp only [decide_eq_true_eq, decide_eq_decide]; omega
theorem tc_one : (fun x => decide (x = 2 ∨ Tc 1 0 x = true)) = Tc 1 1 := by
  funext x; unfold Tc; simp only [decide_eq_true_eq, decide_eq_decide]; omega
theorem tc_last {n i : Nat} (h1 : 1 ≤ i) (h : n ≤ i + 1) (hn : 1 ≤ n) : Tc n i = Tc n (i + 1) := by
  funext x; unfold Tc; simp only [decide_eq_decide]; omega
theorem tc_root {n : Nat} (h : 1 ≤ n) : (fun x => decide (x = lo n 0 ∨ (fun _ => false) x = true)) = Tc n 0 := by
  funext x; unfold Tc lo; simp only [decide_eq_decide, Bool.false_eq_true, or_false]; omega
theorem tc_two {n i : Nat} (h : 1 ≤ i) : Tc n i 2 = true := by unfold Tc; simp [h]
theorem tc_two0 {n : Nat} : Tc n 0 2 = false := by unfold Tc; simp
theorem tc_new {n i : Nat} (h : i + 1 < n) : Tc n i (lo n (i + 1)) = false := by
  unfold Tc lo; simp only [decide_eq_false_iff_not]; omega
theorem tc_cnt {n i N : Nat} (h1 : 1 ≤ i) (h : n ≤ i + 1) (hn : 1 ≤ n) (hN : 4 + 3 * n ≤ N) : cnt (Tc n i) N = n + 1 := by
  have hT : ∀ x, Tc n i x = decide (x = 2 ∨ (x % 3 = 1 ∧ 4 ≤ x ∧ x < 4 + 3 * n)) := fun x => by unfold Tc; simp only [decide_eq_decide]; omega
  have key : ∀ m, m ≤ n → cnt (Tc n i) (4 + 3 * m) = m + 1 := by
    intro m
    induction m with
    | zero => intro _; simp [cnt, hT]
    | succ m ih =>
      intro hm
      rw [show 4 + 3 * (m + 1) = 4 + 3 * m + 1 + 1 + 1 by omega]
      unfold cnt cnt cnt
      rw [ih (by omega), hT, hT, hT, decide_eq_true (by omega), decide_eq_false (by omega), decide_eq_false (by omega)]
      simp
  rw [show N = 4 + 3 * n + (N - (4 + 3 * n)) by omega, cnt_add, key n (Nat.le_refl _), cnt_none (fun j hj => by rw [hT]; exact decide_eq_false (by omega))]
/-- what is met, what waits, behind i steps of the last one first -/
def stR (n i : Nat) : St := (Tc n i, if i = 0 then [lo n 0 * 2] else if i < n then [2 * 2, lo n i * 2] else if i = n then [2 * 2] else [], if i = 0 then 3 else 2 + 3 * min (i + 1) n)
theorem first_all {N n : Nat} {S : Nat → Bool} {M : Nat → Nat} (h : Chain n S M) (hn : 1 ≤ n) (hN : 4 + 3 * n ≤ N) (l : List Nat) : allM N M (Tc n 0, l, 3) (lo n 0) = (Tc n 1, (if n = 1 then l ++ [2 * 2] else l ++ [2 * 2] ++ [lo n 1 * 2]), 2 + 3 * min 2 n) := by
  unfold lo
  rw [all_obj h (by omega), lead1_new (a := 2) (by exact tc_two0 (n := n)) (by omega), cz_class h]
  by_cases h1 : n = 1
  · subst h1
    rw [if_pos rfl, if_pos rfl, lead1_odd (by decide)]
    simp only [tc_one]
    rfl
  · rw [if_neg (by omega), if_neg h1, show 1 + 3 * (n - 1 - 0) = lo n 1 by unfold lo; omega, lead1_new (a := lo n 1) ?_ (by unfold lo; omega)]
    · simp only [tc_first (show 1 < n by omega)]
      rw [show cz M (lo n 1) = 1 from cz_obj h (by omega)]
      refine Prod.ext rfl (Prod.ext rfl ?_)
      show 3 + 2 + 0 + 2 + 1 = 2 + 3 * min 2 n
      omega
    · have := tc_new (n := n) (i := 0) (by omega)
      simp only [decide_eq_false_iff_not]
      rw [this]; simp; unfold lo; omega
theorem next_all {N n i : Nat} {S : Nat → Bool} {M : Nat → Nat} (h : Chain n S M) (hi : 1 ≤ i) (hin : i < n) (hN : 4 + 3 * n ≤ N) (l : List Nat) (k : Nat) : allM N M (Tc n i, l, k) (lo n i) = (Tc n (i + 1), (if i + 1 = n then l else l ++ [lo n (i + 1) * 2]), if i + 1 = n then k else k + 3) := by
  rw [show lo n i = 4 + 3 * (n - 1 - i) from rfl, all_obj h (by omega), lead1_old (a := 2) (by exact tc_two hi)]
  by_cases h1 : i + 1 = n
  · rw [if_pos (by omega), if_pos h1, if_pos h1, lead1_odd (by decide), tc_last hi (by omega) (by omega)]
  · rw [if_neg (by omega), if_neg h1, if_neg h1, show 1 + 3 * (n - 1 - i) = lo n (i + 1) by unfold lo; omega, lead1_new (a := lo n (i + 1)) (tc_new (by omega)) (by unfold lo; omega)]
    simp only [tc_next hi (show i + 1 < n by omega)]
    rw [show cz M (lo n (i + 1)) = 1 from cz_obj h (by omega)]
theorem stR_step {N n i : Nat} {S : Nat → Bool} {M : Nat → Nat} (h : Chain n S M) (hn : 1 ≤ n) (hN : 4 + 3 * n ≤ N) (hN2 : N ≤ 16777216) (hi : i < n + 1) : PopStep N S M (stR n i) (stR n (i + 1)) := by
  refine ⟨by unfold stR; show (if i = 0 then 3 else 2 + 3 * min (i + 1) n) ≤ _; split <;> omega, ?_⟩
  by_cases h0 : i = 0
  · subst h0
    refine ⟨lo n 0, [], rfl, by simp, okf_obj h hN hN2 (by omega), ?_⟩
    rw [show ((stR n 0).1, ([] : List Nat), (stR n 0).2.2) = (Tc n 0, [], 3) from rfl, first_all h hn hN]
    unfold stR
    refine Prod.ext rfl (Prod.ext ?_ ?_)
    · show (if 0 + 1 = 0 then [lo n 0 * 2] else if 0 + 1 < n then [2 * 2, lo n (0 + 1) * 2] else if 0 + 1 = n then [2 * 2] else []) = (if n = 1 then [] ++ [2 * 2] else [] ++ [2 * 2] ++ [lo n 1 * 2])
      rw [if_neg (by omega)]
      by_cases h1 : n = 1
      · rw [if_neg (by omega), if_pos (by omega), if_pos h1]; rfl
      · rw [if_pos (by omega), if_neg h1]; rfl
    · show (if 0 + 1 = 0 then 3 else 2 + 3 * min (0 + 1 + 1) n) = 2 + 3 * min 2 n
      rw [if_neg (by omega)]
  · by_cases h1 : i < n
    · refine ⟨lo n i, [2 * 2], ?_, by simp, okf_obj h hN hN2 (by omega), ?_⟩
      · show (if i = 0 then [lo n 0 * 2] else if i < n then [2 * 2, lo n i * 2] else if i = n then [2 * 2] else []) = [2 * 2] ++ [lo n i * 2]
        rw [if_neg h0, if_pos h1]; rfl
      · rw [show ((stR n i).1, [2 * 2], (stR n i).2.2) = (Tc n i, [2 * 2], if i = 0 then 3 else 2 + 3 * min (i + 1) n) from rfl, next_all h (by omega) h1 hN]
        unfold stR
        refine Prod.ext rfl (Prod.ext ?_ ?_)
        · show (if i + 1 = 0 then [lo n 0 * 2] else if i + 1 < n then [2 * 2, lo n (i + 1) * 2] else if i + 1 = n then [2 * 2] else []) = (if i + 1 = n then [2 * 2] else [2 * 2] ++ [lo n (i + 1) * 2])
          rw [if_neg (by omega)]
          by_cases h2 : i + 1 = n
          · rw [if_neg (by omega), if_pos h2, if_pos h2]
          · rw [if_pos (by omega), if_neg h2]; rfl
        · show (if i + 1 = 0 then 3 else 2 + 3 * min (i + 1 + 1) n) = if i + 1 = n then (if i = 0 then 3 else 2 + 3 * min (i + 1) n) else (if i = 0 then 3 else 2 + 3 * min (i + 1) n) + 3
          rw [if_neg (by omega), if_neg h0]
          split <;> omega
    · have hin : i = n := by omega
      refine ⟨2, [], ?_, by simp, okf_class h (by omega), ?_⟩
      · show (if i = 0 then [lo n 0 * 2] else if i < n then [2 * 2, lo n i * 2] else if i = n then [2 * 2] else []) = [] ++ [2 * 2]
        rw [if_neg h0, if_neg h1, if_pos hin]; rfl
      · rw [all_class h (by exact tc_two (by omega))]
        unfold stR
        refine Prod.ext (tc_last (by omega) (by omega) hn).symm (Prod.ext ?_ ?_)
        · show (if i + 1 = 0 then [lo n 0 * 2] else if i + 1 < n then [2 * 2, lo n (i + 1) * 2] else if i + 1 = n then [2 * 2] else []) = []
          rw [if_neg (by omega), if_neg (by omega), if_neg (by omega)]
        · show (if i + 1 = 0 then 3 else 2 + 3 * min (i + 1 + 1) n) = (if i = 0 then 3 else 2 + 3 * min (i + 1) n)
          rw [if_neg (by omega), if_neg h0]; omega
theorem root_first {N n : Nat} {S : Nat → Bool} {M : Nat → Nat} (h : Chain n S M) (hn : 1 ≤ n) (hN : 4 + 3 * n ≤ N) : lead1 N M ((fun _ => false), [], 0) (lo n 0 * 2) = (Tc n 0, [lo n 0 * 2], 3) := by
  rw [lead1_new rfl (by unfold lo; omega), show cz M (lo n 0) = 1 from cz_obj h (by omega)]
  simp only [tc_root hn]
  rfl
/-- in the order of steps -/
def cS (t : Nat) : Nat := if t ≤ 1 then t else t - 1
def ln (n t : Nat) : Nat := if t = 0 then 1 else min (cS t + 2) (n + 1)
def aS (n t : Nat) : Nat := if t = 0 then lo n 0 else if t = 1 then 2 else lo n (t - 1)
def stS (n t : Nat) : St := (Tc n (cS t), (List.range (ln n t)).map (fun i => aS n i * 2), if t = 0 then 3 else 2 + 3 * min (cS t + 1) n)
theorem stS_len (n t : Nat) : (stS n t).2.1.length = ln n t := by simp [stS]
theorem stS_step {N n t : Nat} {S : Nat → Bool} {M : Nat → Nat} (h : Chain n S M) (hn : 1 ≤ n) (hN : 4 + 3 * n ≤ N) (ht : t < n + 1) : stS n (t + 1) = allM N M (stS n t) (aS n t) := by
  by_cases h0 : t = 0
  · subst h0
    rw [show stS n 0 = (Tc n 0, [lo n 0 * 2], 3) from rfl, show aS n 0 = lo n 0 from rfl, first_all h hn hN]
    unfold stS
    refine Prod.ext rfl (Prod.ext ?_ ?_)
    · by_cases h1 : n = 1
      · subst h1; rfl
      · rw [if_neg h1, show ln n (0 + 1) = 3 by unfold ln cS; rw [if_neg (by omega), if_pos (by omega)]; omega]; rfl
    · show (if 0 + 1 = 0 then 3 else 2 + 3 * min (cS (0 + 1) + 1) n) = 2 + 3 * min 2 n
      rw [if_neg (by omega)]; rfl
  · by_cases h1 : t = 1
    · subst h1
      rw [show aS n 1 = 2 from rfl, all_class h (by exact tc_two (n := n) (i := 1) (by decide))]
      rfl
    · have e1 : cS t = t - 1 := by unfold cS; rw [if_neg (by omega)]
      have e2 : cS (t + 1) = t := by unfold cS; rw [if_neg (by omega)]; omega
      have e3 : ln n t = min (t + 1) (n + 1) := by unfold ln; rw [if_neg h0, e1]; omega
      have e4 : ln n (t + 1) = min (t + 2) (n + 1) := by unfold ln; rw [if_neg (by omega), e2]
      have e5 : aS n t = lo n (t - 1) := by unfold aS; rw [if_neg h0, if_neg h1]
      unfold stS
      rw [e1, e2, e3, e4, e5, if_neg h0, if_neg (by omega), next_all h (by omega) (by omega) hN, show t - 1 + 1 = t by omega]
      refine Prod.ext rfl (Prod.ext ?_ ?_)
      · show (List.range (min (t + 2) (n + 1))).map (fun i => aS n i * 2) = if t = n then _ else _
        by_cases h2 : t = n
        · rw [if_pos h2, show min (t + 2) (n + 1) = min (t + 1) (n + 1) by omega]
        · rw [if_neg h2, show min (t + 2) (n + 1) = t + 1 + 1 by omega, show min (t + 1) (n + 1) = t + 1 by omega, List.range_succ, List.map_append]
          have e6 : aS n (t + 1) = lo n t := by unfold aS; rw [if_neg (by omega), if_neg (by omega)]; rfl
          simp only [List.map_cons, List.map_nil, e6]
      · show 2 + 3 * min (t + 1) n = if t = n then 2 + 3 * min t n else 2 + 3 * min t n + 3
        split <;> omega
theorem aS_ok {N n t : Nat} {S : Nat → Bool} {M : Nat → Nat} (h : Chain n S M) (hn : 1 ≤ n) (hN : 4 + 3 * n ≤ N) (hN2 : N ≤ 16777216) (ht : t < n + 1) : OKF N S M (aS n t) := by
  unfold aS
  split
  · exact okf_obj h hN hN2 (by omega)
  · split
    · exact okf_class h (by omega)
    · exact okf_obj h hN hN2 (by omega)
def fS (n j : Nat) : Nat := if j ≤ 1 then j else min (j + 1) (n + 1)
def foundS (n t : Nat) : Int := if n < t ∨ (n = 1 ∧ t = 1) then (n : Int) - 1 else -1
theorem ln_eq (n t : Nat) : ln n t = if t = 0 then 1 else if t = 1 then min 3 (n + 1) else min (t + 1) (n + 1) := by
  unfold ln cS
  split
  · rfl
  · by_cases h1 : t = 1
    · subst h1; rfl
    · rw [if_neg (by omega), if_neg h1]; omega
end Go.Proofs.YtokgnedbbnnecaaDoor
namespace Go.Proofs.YtokgnedbbnnecaaDoor
open Go.RowKit
set_option linter.unusedVariables false
theorem reach_chain (B0 h N free n rb x : Nat) (S : Nat → Bool) (M : Nat → Nat) (w : World) (H0 : HeapAt w B0 h N free S M) (hc : Chain n S M) (hn : 1 ≤ n) (hN : 4 + 3 * n ≤ N) (hx : x = lo n 0 * 2) (hr : w.cell? ⟨rb, 0, none⟩ = some (.int .u64 (x : Int))) (hrb : rb < w.heap.size) :
    Calls Tryd.prog 8 #[.pointer (some ⟨h, 0, none⟩), .slice (some ⟨rb, 0, none⟩) 1 1] w fun e w' => ∃ b, e = .returned (.tuple #[.pointer (some ⟨b, 0, none⟩), .int .i64 ((2 + 3 * n : Nat) : Int), .int .i64 0]) ∧ BitsAt w' w.heap.size b N (Tc n (n + 1)) ∧ Below w.heap.size w w' := by
  have hN2 : N ≤ 16777216 := by obtain ⟨g, s, -, -, h3, -⟩ := H0; exact h3
  have h := reach_any B0 h N free S M [x] (stR n) (n + 1) rb 1 w H0 (fun i hi => ?_) hrb (Nat.le_refl _) (by decide) ?_ (fun i hi => stR_step hc hn hN hN2 hi) ?_
  · rw [show (stR n (n + 1)).2.2 = 2 + 3 * n by show (if n + 1 = 0 then 3 else 2 + 3 * min (n + 1 + 1) n) = _; rw [if_neg (by omega)]; omega] at h
    exact h
  · have : i = 0 := by simp at hi; omega
    subst this
    refine ⟨?_, hr⟩
    show OKW N S M x
    rw [hx]; exact okw_obj hc hN hN2 (by omega)
  · show stR n 0 = lead1 N M ((fun _ => false), [], 0) x
    rw [hx, root_first hc hn hN]; rfl
  · show (if n + 1 = 0 then [lo n 0 * 2] else if n + 1 < n then [2 * 2, lo n (n + 1) * 2] else if n + 1 = n then [2 * 2] else []) = []
    rw [if_neg (by omega), if_neg (by omega), if_neg (by omega)]
end Go.Proofs.YtokgnedbbnnecaaDoor
namespace Go.Proofs.YtokgnedbbnnecaaDoor
open Go.RowKit
set_option linter.unusedVariables false
theorem checkC {k : Int} {n : Nat} (h0 : 0 ≤ k) (h1 : k ≤ 1) (hn : n ≤ 1048576) : checkZ ((4 : Nat) : Int) k n 0 = 0 := by
  rw [checkZ_ok]; exact ⟨by decide, by decide, by omega, by omega, by decide, h0, by omega⟩
theorem alloc_class (B h N : Nat) (S : Nat → Bool) (M : Nat → Nat) (w : World) (H : HeapAt w B h N 2 S M) (hB : B ≤ w.heap.size) :
    Calls Tryd.prog 16 #[.pointer (some ⟨h, 0, none⟩), .int .u64 4, .int .i64 0, .int .i64 0, .int .u64 1] w fun e w' => e = .returned (.tuple #[.int .u64 4, .int .i64 0]) ∧ (∃ S' M', HeapAt w' B h N 4 S' M' ∧ Chain 0 S' M') ∧ Below B w w' := by
  have hN : 16 ≤ N := by obtain ⟨g, s, -, -, -, h3, -⟩ := H; exact h3
  refine (alloc_slots B h N 2 4 0 1 0 S M w H hB (by omega) (checkC (by omega) (by omega) (by omega)) (by omega) (by omega) (by omega) (by omega)).mono ?_
  rintro e w' ⟨rfl, h1, h2⟩
  exact ⟨rfl, ⟨_, _, h1, chain_start N (by omega) S M⟩, h2⟩
theorem alloc_obj (B h N n : Nat) (S : Nat → Bool) (M : Nat → Nat) (w : World) (H : HeapAt w B h N (4 + 3 * n) S M) (hB : B ≤ w.heap.size) (hc : Chain n S M) (hN : 4 + 3 * (n + 1) ≤ N) :
    Calls Tryd.prog 16 #[.pointer (some ⟨h, 0, none⟩), .int .u64 4, .int .i64 1, .int .i64 1, .int .u64 ((if n = 0 then 1 else (1 + 3 * n) * 2 : Nat) : Int)] w fun e w' => e = .returned (.tuple #[.int .u64 ((4 + 3 * n : Nat) * 2 : Int), .int .i64 0]) ∧ (∃ S' M', HeapAt w' B h N (4 + 3 * (n + 1)) S' M' ∧ Chain (n + 1) S' M') ∧ Below B w w' := by
  have hN2 : N ≤ 16777216 := by obtain ⟨g, s, -, -, h3, -⟩ := H; exact h3
  refine (alloc_slots B h N (4 + 3 * n) 4 1 (if n = 0 then 1 else (1 + 3 * n) * 2) 1 S M w H hB (by omega) (checkC (by omega) (by omega) (by omega)) (by omega) (by split <;> omega) (by omega) (by omega)).mono ?_
  rintro e w' ⟨rfl, h1, h2⟩
  exact ⟨rfl, ⟨_, _, by rw [show 4 + 3 * (n + 1) = 4 + 3 * n + 2 + 1 by omega]; exact h1, chain_next N n S M hc (by omega)⟩, h2⟩
theorem alloc_side (B h N n fr : Nat) (S : Nat → Bool) (M : Nat → Nat) (w : World) (H : HeapAt w B h N fr S M) (hB : B ≤ w.heap.size) (hc : Chain n S M) (hf : 4 + 3 * n ≤ fr) (hN : fr + 3 ≤ N) :
    Calls Tryd.prog 16 #[.pointer (some ⟨h, 0, none⟩), .int .u64 4, .int .i64 1, .int .i64 1, .int .u64 1] w fun e w' => (∃ v, e = .returned v) ∧ (∃ S' M', HeapAt w' B h N (fr + 3) S' M' ∧ Chain n S' M') ∧ Below B w w' := by
  have hN2 : N ≤ 16777216 := by obtain ⟨g, s, -, -, h3, -⟩ := H; exact h3
  refine (alloc_slots B h N fr 4 1 1 1 S M w H hB (by omega) (checkC (by omega) (by omega) (by omega)) (by omega) (by omega) (by omega) (by omega)).mono ?_
  rintro e w' ⟨rfl, h1, h2⟩
  exact ⟨⟨_, rfl⟩, ⟨_, _, by rw [show fr + 3 = fr + 2 + 1 by omega]; exact h1, chain_keep N n fr 1 S M hc hf (by omega) _⟩, h2⟩
/-- all of a chain is reached, from a row of one word that was just laid -/
theorem reach_new (B0 h N free n x : Nat) (S : Nat → Bool) (M : Nat → Nat) (w : World) (H0 : HeapAt w B0 h N free S M) (hc : Chain n S M) (hn : 1 ≤ n) (hN : 4 + 3 * n ≤ N) (hx : x = lo n 0 * 2) :
    Calls Tryd.prog 8 #[.pointer (some ⟨h, 0, none⟩), .slice (some ⟨w.heap.size, 0, none⟩) 1 1] (w.alloc (.cells #[.int .u64 (x : Int)] 46)) fun e w' => ∃ b, e = .returned (.tuple #[.pointer (some ⟨b, 0, none⟩), .int .i64 ((2 + 3 * n : Nat) : Int), .int .i64 0]) ∧ BitsAt w' w.heap.size b N (Tc n (n + 1)) ∧ Below w.heap.size w w' := by
  have hb : Below w.heap.size w (w.alloc (.cells #[.int .u64 (x : Int)] 46)) := (Below.refl _ w).alloc (Nat.le_refl _) _
  have hcell : (w.alloc (.cells #[.int .u64 (x : Int)] 46)).cell? ⟨w.heap.size, 0, none⟩ = some (.int .u64 (x : Int)) := cellO (heap_alloc_new w _) 0
  refine (reach_chain B0 h N free n w.heap.size x S M _ (H0.later hb) hc hn hN hx hcell ?_).mono ?_
  · exact (Array.getElem?_eq_some_iff.1 (heap_alloc_new w _)).1
  · rintro e w' ⟨b, rfl, h1, h2⟩
    exact ⟨b, rfl, h1.mono hb.size, hb.trans (h2.mono hb.size)⟩
theorem below_all (B b n N : Nat) (w : World) (h : BitsAt w B b N (Tc n (n + 1))) (hn : 1 ≤ n) (hN : 4 + 3 * n ≤ N) :
    Calls Tryd.prog 17 #[.pointer (some ⟨b, 0, none⟩), .int .i64 (N : Int)] w fun e w' => e = .returned (.int .i64 ((n + 1 : Nat) : Int)) ∧ w' = w := by
  have h1 := below_any B b N (Tc n (n + 1)) (N : Int) w h
  rw [show clipN N (N : Int) = N by unfold clipN; omega, tc_cnt (by omega) (by omega) hn hN] at h1
  exact h1
set_option maxRecDepth 100000 in
theorem awake5 (w : World) : Calls Tryd.prog 5 #[] w fun e w' => e = .returned (.bool true) ∧ Below w.heap.size w w' := by
  have NW := Lib.hid (new_yes 40 (by omega) (by omega) w)
  go_enter Tryd.func5, Tryd.ntmps5
  go_wp2_with fail
  refine NW.out.mono ?_
  rintro e w1 ⟨h, rfl, hh, hg⟩
  have AL := Lib.hid (alloc_class _ h 40 _ _ w1 hh hg.size)
  have HG1 := Lib.hid hg; clear hh hg
  go_wp2_with fail
  refine AL.out.mono ?_
  rintro e w2 ⟨rfl, ⟨S2, M2, hh, hc⟩, hg⟩
  have HG2 := Lib.hid (HG1.out.trans hg)
  have AO := Lib.hid (alloc_obj _ h 40 0 S2 M2 w2 hh HG2.out.size hc (by omega))
  rw [if_pos rfl] at AO
  clear hh hg hc
  go_wp2_with fail
  refine AO.out.mono ?_
  rintro e w3 ⟨rfl, ⟨S3, M3, hh, hc⟩, hg⟩
  have HG3 := Lib.hid (HG2.out.trans hg)
  have AS := Lib.hid (alloc_side _ h 40 1 7 S3 M3 w3 hh HG3.out.size hc (by omega) (by omega))
  clear hh hg hc
  go_wp2_with fail
  refine AS.out.mono ?_
  rintro e w4 ⟨⟨v, rfl⟩, ⟨S4, M4, hh, hc⟩, hg⟩
  have HG4 := Lib.hid (HG3.out.trans hg)
  have HH4 := Lib.hid hh; have HC4 := Lib.hid hc
  clear hh hg hc
  have RE := Lib.hid (reach_new _ h 40 10 1 8 S4 M4 w4 HH4.out HC4.out (by omega) (by omega) (by decide))
  go_wp2_with fail
  refine RE.out.mono ?_
  rintro e w5 ⟨b, rfl, hb, hg⟩
  have HG5 := Lib.hid (HG4.out.trans (hg.mono HG4.out.size))
  have BL := Lib.hid (below_all _ b 1 40 w5 hb (by omega) (by omega))
  clear hb hg
  go_wp2_with fail
  refine BL.out.mono ?_
  rintro e w6 ⟨rfl, rfl⟩
  go_wp2_with fail
  go_ret
  exact ⟨rfl, HG5.out⟩
end Go.Proofs.YtokgnedbbnnecaaDoor
