/- Does all lead to objects: of any memory of good objects. What an image's bytes hold; objects that are laid one behind the other: the plain law. -/
import Derived.Test.YtobajnodckiohaaDoorLoadD
import Derived.Test.YtobajnodckiohaaDoorImgF
namespace Go.Proofs.YtobajnodckiohaaDoor
open Go.RowKit
set_option linter.unusedVariables false
/-- is the word an object's pointer? -/
def PtrIn (S : Nat → Bool) (x : Nat) : Bool := decide (x % 2 = 0 ∧ x ≠ 0 ∧ x < 33554432) && S (x / 2)
def WordIn (S : Nat → Bool) (y : Nat) : Bool := decide (y = 0) || decide (y % 2 = 1) || PtrIn S y
def ObjIn (S : Nat → Bool) (M : Nat → Nat) (a : Nat) : Prop := PtrIn S (M a) = true ∧ (hK (M (a + 1)) ≠ 2 → ∀ i : Nat, (i : Int) < hS (M (a + 1)) → WordIn S (M (a + 2 + i)) = true)
/-- all leads to objects -/
def ClosedP (S : Nat → Bool) (M : Nat → Nat) : Prop := ∀ a, S a = true → ObjIn S M a
set_option maxRecDepth 100000 in
theorem hat_no (B h N free x : Nat) (S : Nat → Bool) (M : Nat → Nat) (w : World) (H : HeapAt w B h N free S M) (hx : x < 18446744073709551616) (hno : x % 2 = 1 ∨ x = 0 ∨ 33554432 ≤ x) :
    Calls Tryd.prog 26 #[.pointer (some ⟨h, 0, none⟩), .int .u64 (x : Int)] w fun e w' => e = .returned (.tuple #[.int .i64 0, .bool false]) ∧ Below w.heap.size w w' := by
  have A := Lib.hid (at_no (x : Int) (by omega) (by omega) (by omega) w)
  clear H hno
  go_enter Tryd.func26, Tryd.ntmps26
  go_wp2_with fail
  refine A.out.mono ?_
  rintro e w1 ⟨rfl, hw⟩
  subst hw
  go_wp2_with fail
  exact bodyPost_ret (v := .tuple #[.int .i64 0, .bool false]) (by simp [results, Tryd.results26, go_sem]) rfl ⟨rfl, Below.refl _ _⟩
end Go.Proofs.YtobajnodckiohaaDoor
namespace Go.Proofs.YtobajnodckiohaaDoor
open Go.RowKit
set_option linter.unusedVariables false
theorem imgL_fits (M : Nat → Nat) (free root : Nat) : Fits (imgL M free root) := by
  obtain ⟨B, hB⟩ : ∃ B, bodyL M free root = B := ⟨_, rfl⟩
  have himg : imgL M free root = B ++ leBytes (crc (nats B)) 4 := by unfold imgL; rw [hB]
  have hll := leBytes_len (crc (nats B)) 4
  have hZ := crc_lt32 B
  refine ⟨?_, ?_⟩
  · rw [himg, ← hB]
    unfold bodyL Lib.hasPrefix
    rw [List.append_assoc]
    exact List.isPrefixOf_iff_prefix.2 (List.prefix_append _ _)
  · rw [himg, List.length_append, hll, Nat.add_sub_cancel, List.take_left' rfl, List.drop_left' rfl]
    unfold getN
    rw [hll, if_pos (by decide), show clip8 4 = 4 by decide, List.take_of_length_le (by omega), leVal_le]
    exact Nat.mod_eq_of_lt (by omega)
theorem wordsL_append (a b : List Nat) : wordsL (a ++ b) = wordsL a ++ wordsL b := by simp [wordsL]
theorem imgL_parts (M : Nat → Nat) (free root : Nat) : imgL M free root = (headL ++ wordsL [free - 2, 0, root]) ++ (wordsL (usedL M free) ++ leBytes (crc (nats (bodyL M free root))) 4) := by
  unfold imgL
  rw [show bodyL M free root = headL ++ (wordsL [free - 2, 0, root] ++ wordsL (usedL M free)) by unfold bodyL allL; rw [wordsL_append]]
  simp only [List.append_assoc]
theorem imgL_front (M : Nat → Nat) (free root : Nat) (hf : free ≤ 100000) (hr : root < 18446744073709551616) :
    wordVals (wordsOf (((imgL M free root).take 32).drop 8) 3) = [.int .u64 ((free - 2 : Nat) : Int), .int .u64 ((0 : Nat) : Int), .int .u64 (root : Int)] := by
  have hl : (headL ++ wordsL [free - 2, 0, root]).length = 32 := by rw [List.length_append, wordsL_len]; rfl
  rw [imgL_parts, List.take_left' hl, List.drop_left' (show headL.length = 8 by rfl)]
  have h := wordsOf_words [free - 2, 0, root] (fun x hx => by simp at hx; omega)
  rw [show [free - 2, 0, root].length = 3 by rfl] at h
  rw [h]
  rfl
theorem imgL_used (M : Nat → Nat) (free root : Nat) (hM : ∀ i, M i < 18446744073709551616) :
    wordsOf (((imgL M free root).take (36 + 8 * (free - 2) - 4)).drop 32) (free - 2) = usedL M free := by
  have hl : (headL ++ wordsL [free - 2, 0, root]).length = 32 := by rw [List.length_append, wordsL_len]; rfl
  have hu := usedL_len M free
  rw [imgL_parts, ← List.append_assoc, List.take_left' (by rw [List.length_append, hl, wordsL_len, hu]; omega), List.drop_left' hl]
  have h := wordsOf_words (usedL M free) (usedL_small hM free)
  rw [hu] at h
  exact h
theorem loadM_used {M : Nat → Nat} {free : Nat} (hz : ∀ j, free ≤ j → M j = 0) (j : Nat) (hj : 2 ≤ j) : loadM (usedL M free) j = M j := by
  unfold loadM
  rw [usedL_len]
  by_cases h : j < free
  · rw [if_pos ⟨hj, by omega⟩, List.getD_eq_getElem?_getD, usedL, List.getElem?_map, List.getElem?_range (by omega)]
    show M (2 + (j - 2)) = M j
    congr 1; omega
  · rw [if_neg (by omega), hz j (by omega)]
theorem LayO.stands {free : Nat} {S : Nat → Bool} {M : Nat → Nat} {o : RO} (h : LayO free S M o) : StandsAt M o.at_ ∧ cellsM M o.at_ = cellsR o := by
  obtain ⟨a, b, c, d, -, e, f⟩ := unOK_packL false h.check (by omega)
  have hh : M (o.at_ + 1) = (packZ o.kind 3 0 false).toNat := h.head
  have hI : ((M (o.at_ + 1) : Nat) : Int) = packZ o.kind 3 0 false := by rw [hh, Int.toNat_of_nonneg e]
  have hcell : cellsM M o.at_ = cellsR o := by unfold cellsM cellsR; rw [hI, b, c, h.cls]
  refine ⟨⟨by rw [hI, h.cls]; exact a, by rw [hI]; exact d, fun hk _ => ?_⟩, hcell⟩
  rw [hI, b] at hk
  have h1 := cellsR_of h.check
  rw [if_pos hk] at h1
  rw [hcell, h1, show o.at_ + 2 + 1 - 1 = o.at_ + 2 by omega, h.tail hk]
  exact Nat.zero_div _
theorem Lays.chain {free : Nat} {S : Nat → Bool} {M : Nat → Nat} {os : List RO} (h : Lays free S M os) : Chain4 M free 2 (os.map (·.at_)) := by
  have key : ∀ (n i : Nat), i + n = os.length → Chain4 M free (usedR (os.take i)) ((os.drop i).map (·.at_)) := by
    intro n
    induction n with
    | zero =>
      intro i hi
      rw [List.drop_of_length_le (by omega), List.take_of_length_le (by omega)]
      exact h.used
    | succ n ih =>
      intro i hi
      have hl : i < os.length := by omega
      have hg := List.getElem?_eq_getElem hl
      obtain ⟨o, ho⟩ : ∃ o, os[i] = o := ⟨_, rfl⟩
      rw [List.drop_eq_getElem_cons hl, List.map_cons, ho]
      rw [ho] at hg
      obtain ⟨hs, hc⟩ := (h.obj i o hg).stands
      have hn := h.next i o hg
      refine ⟨hn, by rw [← hn]; exact hs, ?_⟩
      have h2 := ih (i + 1) (by omega)
      rw [List.take_succ_eq_append_getElem hl, ho, usedR_snoc] at h2
      rw [← hn, hc]
      exact h2
  exact key os.length 0 (by omega)
theorem Chain4.congr {M M' : Nat → Nat} {free : Nat} (hM : ∀ j, 2 ≤ j → M' j = M j) : ∀ {l : List Nat} {a : Nat}, 2 ≤ a → Chain4 M free a l → Chain4 M' free a l
  | [], a, _, h => h
  | x :: l, a, ha, ⟨hx, ⟨h1, h2, h3⟩, h4⟩ => by
    have e0 := hM a ha
    have e1 := hM (a + 1) (by omega)
    have ec : cellsM M' a = cellsM M a := by unfold cellsM; rw [e0, e1]
    refine ⟨hx, ⟨by rw [e0, e1]; exact h1, by rw [e1]; exact h2, fun hk hr => ?_⟩, ?_⟩
    · rw [e1] at hk hr ⊢
      rw [ec, hM _ (by omega)]
      exact h3 hk hr
    · rw [ec]
      exact Chain4.congr hM (by omega) h4
theorem Lays.setAll_eq {N free : Nat} {S : Nat → Bool} {M : Nat → Nat} {os : List RO} (h : Lays free S M os) (hN : free ≤ N) : setAll N (fun _ => false) (os.map (·.at_)) = S := by
  have hlt : ∀ x ∈ os.map (·.at_), x < N := by
    intro x hx
    obtain ⟨o, ho, rfl⟩ := List.mem_map.1 hx
    obtain ⟨i, hi, rfl⟩ := List.getElem_of_mem ho
    have := (h.obj i _ (List.getElem?_eq_getElem hi)).fit
    omega
  funext a
  have hiff := setAll_iff N (os.map (·.at_)) (fun _ => false) a hlt
  cases hs : S a with
  | true =>
    rw [hiff]
    obtain ⟨i, o, ho, rfl⟩ := h.only a hs
    exact Or.inl (List.mem_map.2 ⟨o, List.mem_of_getElem? ho, rfl⟩)
  | false =>
    cases hq : setAll N (fun _ => false) (os.map (·.at_)) a with
    | false => rfl
    | true =>
      rcases hiff.1 hq with hm | hm
      · obtain ⟨o, ho, rfl⟩ := List.mem_map.1 hm
        obtain ⟨i, hi, rfl⟩ := List.getElem_of_mem ho
        rw [(h.obj i _ (List.getElem?_eq_getElem hi)).here] at hs
        cases hs
      · cases hm
theorem Lays.goodN {N free : Nat} {S : Nat → Bool} {M M' : Nat → Nat} {os : List RO} (h : Lays free S M os) (hf : free ≤ N) (hM : ∀ j, 2 ≤ j → M' j = M j) : GoodH N S M' := by
  intro a ha
  obtain ⟨i, o, ho, rfl⟩ := h.only a ha
  have hp := h.obj i o ho
  have h2 := hp.two; have h3 := hp.fit
  have hc := cellsR_of hp.check
  obtain ⟨u1, u2, u3⟩ := hp.un
  rw [hM _ (show 2 ≤ o.at_ + 1 by omega), ← show M' o.at_ = M o.at_ from hM _ h2] at *
  refine ⟨⟨by omega, by split at hc <;> omega, ha, by rw [hM _ (show 2 ≤ o.at_ + 1 by omega)]; exact u1⟩, fun hk => ?_⟩
  rw [u2] at hk
  rw [if_neg hk] at hc
  rw [u3]
  show o.at_ + 2 + 3 ≤ N
  omega
theorem ClosedP.congr {S : Nat → Bool} {M M' : Nat → Nat} (hS : ∀ a, S a = true → 2 ≤ a) (hM : ∀ j, 2 ≤ j → M' j = M j) : ClosedP S M' ↔ ClosedP S M := by
  have key : ∀ a, S a = true → (ObjIn S M' a ↔ ObjIn S M a) := by
    intro a ha
    have h2 := hS a ha
    unfold ObjIn
    rw [hM a h2, hM (a + 1) (by omega)]
    constructor
    · rintro ⟨h1, h3⟩
      exact ⟨h1, fun hk i hi => by rw [← hM _ (by omega)]; exact h3 hk i hi⟩
    · rintro ⟨h1, h3⟩
      exact ⟨h1, fun hk i hi => by rw [hM _ (by omega)]; exact h3 hk i hi⟩
  exact ⟨fun h a ha => (key a ha).1 (h a ha), fun h a ha => (key a ha).2 (h a ha)⟩
end Go.Proofs.YtobajnodckiohaaDoor
