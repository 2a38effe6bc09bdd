/- Where Check finds nothing wrong: what its depths say of each instruction that is reached, in plain Lean. -/
import Derived.Test.YtnajgpefmknmpaaDoorChkQ
import Derived.Test.YtnajgpefmknmpaaDoorChkC
namespace Go.Proofs.YtnajgpefmknmpaaDoor
open Go.RowKit
set_option linter.unusedVariables false
theorem dec_take {l : List UInt8} {tz p : Nat} (h : p < (l.take tz).length) (he : (decI (l.take tz) p).2.2 = 0) : decI l p = decI (l.take tz) p := by
  have hl : (l.take tz).length = min tz l.length := List.length_take
  have hg : (l.take tz).getD p 0 = l.getD p 0 := by
    rw [List.getD_eq_getElem?_getD, List.getD_eq_getElem?_getD, List.getElem?_take, if_pos (by omega)]
  by_cases h2 : 20 ≤ ((l.take tz).getD p 0).toNat
  · rw [dec_form h h2] at he; cases he
  · by_cases h3 : (l.take tz).length < p + 1 + (fmOf ((l.take tz).getD p 0).toNat).a + (fmOf ((l.take tz).getD p 0).toNat).b
    · rw [dec_short h (by omega) h3] at he; cases he
    · have t : ∀ m n, m + n ≤ (l.take tz).length → ((l.take tz).drop m).take n = (l.drop m).take n := by
        intro m n hmn; rw [List.drop_take, List.take_take, Nat.min_eq_left (by omega)]
      rw [dec_yes h (by omega) h3]
      rw [hg] at h2 h3 ⊢
      rw [dec_yes (by omega) (by omega) (by omega), t _ _ (by omega), t _ _ (by omega)]
theorem wrong_ne {e x : Int} (hx : x ≠ 0) : wrongE e x ≠ 0 := by
  unfold wrongE; split <;> omega
/-- where an instruction begins it may be read, and a Block has its part -/
structure OkI (l : List UInt8) (c : Ck) : Prop where
  at_ : ∀ p n, c.of_ p = some n → ∃ k : Nat, p = k ∧ k < l.length ∧ (decI l k).2.2 = 0 ∧
    ((decI l k).1.op = 17 → ∃ j : Nat, c.blocks k = some (j : Int) ∧ ∃ P, c.parts[j]? = some P ∧ (P.fr : Int) = (decI l k).2.1 ∧ P.deep = (decI l k).1.a)
  blk : ∀ p j, c.blocks p = some j → ∃ k : Nat, p = k ∧ (decI l k).1.op = 17
theorem OkI.same {l : List UInt8} {c c' : Ck} (I : OkI l c) (h1 : c'.of_ = c.of_) (h2 : c'.blocks = c.blocks) (h3 : c'.parts = c.parts) : OkI l c' :=
  ⟨fun p n h => by rw [h1] at h; rw [h2, h3]; exact I.at_ p n h, fun p j h => by rw [h2] at h; exact I.blk p j h⟩
theorem OkI.plain {l : List UInt8} {c : Ck} {W : Wd} {n k : Nat} {x : Ins} (I : OkI l c) (hk : k < l.length) (he : (decI l k).2.2 = 0) (hx : (decI l k).1.op ≠ 17) : OkI l (layC1 W n k x c) := by
  refine ⟨fun p m h => ?_, fun p j h => I.blk p j h⟩
  by_cases hp : p = (k : Int)
  · exact ⟨k, hp, hk, he, fun h17 => absurd h17 hx⟩
  · have h' : upd c.of_ k n p = some m := h
    rw [upd_other _ hp] at h'
    exact I.at_ p m h'
theorem OkI.block {l : List UInt8} {c : Ck} {W : Wd} {n k : Nat} {x : Ins} {P : Pt} (I : OkI l c) (hk : k < l.length) (he : (decI l k).2.2 = 0) (hx : (decI l k).1.op = 17) (hf : (P.fr : Int) = (decI l k).2.1) (hd : P.deep = (decI l k).1.a) :
    OkI l { layC1 W n k x c with blocks := upd c.blocks k c.parts.length, parts := c.parts ++ [P] } := by
  have hnew : (c.parts ++ [P])[c.parts.length]? = some P := by rw [List.getElem?_append_right (Nat.le_refl _), Nat.sub_self]; rfl
  refine ⟨fun p m h => ?_, fun p j h => ?_⟩
  · by_cases hp : p = (k : Int)
    · exact ⟨k, hp, hk, he, fun _ => ⟨c.parts.length, upd_same _ _ _, P, hnew, hf, hd⟩⟩
    · have h' : upd c.of_ k n p = some m := h
      rw [upd_other _ hp] at h'
      obtain ⟨k', h1, h2, h3, h4⟩ := I.at_ p m h'
      refine ⟨k', h1, h2, h3, fun h17 => ?_⟩
      obtain ⟨j, hj, Q, hQ, h5, h6⟩ := h4 h17
      have hb : upd c.blocks k c.parts.length k' = some (j : Int) := by rw [upd_other _ (by omega)]; exact hj
      have hQ2 : (c.parts ++ [P])[j]? = some Q := by
        have := (List.getElem?_eq_some_iff.1 hQ).1
        rw [List.getElem?_append_left this]; exact hQ
      exact ⟨j, hb, Q, hQ2, h5, h6⟩
  · by_cases hp : p = (k : Int)
    · exact ⟨k, hp, hx⟩
    · have h' : upd c.blocks k c.parts.length p = some j := h
      rw [upd_other _ hp] at h'
      exact I.blk p j h'
/-- what is written down of a Block -/
def layC2 (W : Wd) (n p : Nat) (x : Ins) (P : Pt) (c : Ck) : Ck := { layC1 W n p x c with blocks := upd c.blocks p c.parts.length, parts := c.parts ++ [P] }
theorem layC1_e {W : Wd} {n p : Nat} {x : Ins} {c : Ck} (h : (layC1 W n p x c).e = 0) : c.e = 0 := by
  have h' : (if opsOk W x then c.e else wrongE c.e 3) = 0 := h
  split at h'
  · exact h'
  · exact absurd h' (wrong_ne (by decide))
theorem layG_ok {l : List UInt8} {W : Wd} {P : Pt} {n : Nat} : ∀ (f p : Nat) (gs : List Int) (c : Ck), P.to_ ≤ l.length → (c.e = 0 → OkI l c) →
    ((layG l W P n f p gs c).2.e = 0 → OkI l (layG l W P n f p gs c).2) ∧ (layG l W P n f p gs c).2.depth = c.depth ∧ (layG l W P n f p gs c).2.most = c.most ∧
    (∃ new, (layG l W P n f p gs c).2.parts = c.parts ++ new ∧ ((∀ Q ∈ c.parts, Q.to_ ≤ l.length) → ∀ Q ∈ c.parts ++ new, Q.to_ ≤ l.length))
  | 0, p, gs, c, hto, I => ⟨I, rfl, rfl, [], by simp [layG], by simp⟩
  | f + 1, p, gs, c, hto, I => by
    by_cases hlt : p < P.to_
    · have hdl : p < (l.take P.to_).length := by rw [List.length_take]; omega
      by_cases he : (decI (l.take P.to_) p).2.2 = 0
      · obtain ⟨cc, hc20, -, hxo, hbh, hbq, ha, hb⟩ := dec_ok hdl he
        have hd : decI (l.take P.to_) p = ((decI (l.take P.to_) p).1, ((p + 1 + (fmOf (cc : Int)).a + (fmOf (cc : Int)).b : Nat) : Int), 0) := by
          rw [← hbh, ← he]
        have hT := dec_take hdl he
        have hkl : p < l.length := by omega
        have he' : (decI l p).2.2 = 0 := by rw [hT]; exact he
        by_cases hx : (decI (l.take P.to_) p).1.op = 17
        · by_cases ho : P.to_ < p + 1 + (fmOf (cc : Int)).a + (fmOf (cc : Int)).b + (decI (l.take P.to_) p).1.b.toNat
          · rw [layG_over hlt hd hx ho]
            exact ⟨fun h => absurd h (wrong_ne (by decide)), rfl, rfl, [], by simp [layC1], by simp⟩
          · rw [layG_block hlt hd hx ho]
            have I2 : (layC2 W n p (decI (l.take P.to_) p).1 ⟨p + 1 + (fmOf (cc : Int)).a + (fmOf (cc : Int)).b, p + 1 + (fmOf (cc : Int)).a + (fmOf (cc : Int)).b + (decI (l.take P.to_) p).1.b.toNat, (decI (l.take P.to_) p).1.a, true⟩ c).e = 0 → OkI l (layC2 W n p (decI (l.take P.to_) p).1 ⟨p + 1 + (fmOf (cc : Int)).a + (fmOf (cc : Int)).b, p + 1 + (fmOf (cc : Int)).a + (fmOf (cc : Int)).b + (decI (l.take P.to_) p).1.b.toNat, (decI (l.take P.to_) p).1.a, true⟩ c) := fun h =>
              (I (layC1_e (W := W) (n := n) (p := p) (x := (decI (l.take P.to_) p).1) h)).block hkl he' (by rw [hT]; exact hx) (by rw [hT]; exact hbh.symm) (by rw [hT])
            obtain ⟨J1, J2, J3, new, J4, J5⟩ := layG_ok (W := W) (n := n) f (p + 1 + (fmOf (cc : Int)).a + (fmOf (cc : Int)).b + (decI (l.take P.to_) p).1.b.toNat) (layG1 ((p + 1 + (fmOf (cc : Int)).a + (fmOf (cc : Int)).b : Nat) : Int) (decI (l.take P.to_) p).1 gs) (layC2 W n p (decI (l.take P.to_) p).1 ⟨p + 1 + (fmOf (cc : Int)).a + (fmOf (cc : Int)).b, p + 1 + (fmOf (cc : Int)).a + (fmOf (cc : Int)).b + (decI (l.take P.to_) p).1.b.toNat, (decI (l.take P.to_) p).1.a, true⟩ c) hto I2
            refine ⟨J1, J2, J3, (⟨p + 1 + (fmOf (cc : Int)).a + (fmOf (cc : Int)).b, p + 1 + (fmOf (cc : Int)).a + (fmOf (cc : Int)).b + (decI (l.take P.to_) p).1.b.toNat, (decI (l.take P.to_) p).1.a, true⟩ : Pt) :: new, ?_, fun hQ Q hm => ?_⟩
            · refine J4.trans ?_
              show (c.parts ++ [_]) ++ new = _; rw [List.append_assoc]; rfl
            · refine J5 (fun Q hm => ?_) Q (by show Q ∈ (c.parts ++ [_]) ++ new; rw [List.append_assoc]; exact hm)
              rcases List.mem_append.1 hm with hm | hm
              · exact hQ Q hm
              · rw [List.mem_singleton] at hm; subst hm; show _ + _ ≤ l.length; omega
        · rw [layG_plain hlt hd hx]
          have I2 : (layC1 W n p (decI (l.take P.to_) p).1 c).e = 0 → OkI l (layC1 W n p (decI (l.take P.to_) p).1 c) := fun h => (I (layC1_e h)).plain hkl he' (by rw [hT]; exact hx)
          exact layG_ok (W := W) (n := n) f _ _ _ hto I2
      · rw [layG_bad hlt he]
        exact ⟨fun h => absurd h (wrong_ne he), rfl, rfl, [], by simp, by simp⟩
    · rw [layG_end (by omega)]
      exact ⟨I, rfl, rfl, [], by simp, by simp⟩
theorem goalsE_zero (o : Int → Option Int) (n : Nat) : ∀ (gs : List Int) (e : Int), goalsE o n gs e = 0 → e = 0
  | [], e, h => h
  | z :: gs, e, h => by
    have h1 := goalsE_zero o n gs _ (show goalsE o n gs (if o z = some (n : Int) then e else wrongE e 3) = 0 from h)
    split at h1
    · exact h1
    · exact absurd h1 (wrong_ne (by decide))
theorem layM_ok {l : List UInt8} {W : Wd} {n : Nat} {c : Ck} (hn : n < c.parts.length) (hP : ∀ Q ∈ c.parts, Q.to_ ≤ l.length) (I : c.e = 0 → OkI l c) :
    ((layM l W n c).e = 0 → OkI l (layM l W n c)) ∧ (layM l W n c).depth = c.depth ∧ (layM l W n c).most = c.most ∧ ∀ Q ∈ (layM l W n c).parts, Q.to_ ≤ l.length := by
  obtain ⟨J1, J2, J3, new, J4, J5⟩ := layG_ok (l := l) (W := W) (P := c.parts.getD n ⟨0, 0, 0, false⟩) (n := n) ((c.parts.getD n ⟨0, 0, 0, false⟩).to_ - (c.parts.getD n ⟨0, 0, 0, false⟩).fr) (c.parts.getD n ⟨0, 0, 0, false⟩).fr [] c (hP _ (part_in hn)) I
  refine ⟨fun h => ?_, J2, J3, fun Q hQ => J5 hP Q (by rw [← J4]; exact hQ)⟩
  exact (J1 (goalsE_zero _ _ _ _ h)).same rfl rfl rfl
theorem partsG_ok {l : List UInt8} {W : Wd} : ∀ (f n : Nat) (c : Ck), (∀ Q ∈ c.parts, Q.to_ ≤ l.length) → (c.e = 0 → OkI l c) →
    ((partsG l W f n c).e = 0 → OkI l (partsG l W f n c)) ∧ (partsG l W f n c).depth = c.depth ∧ (partsG l W f n c).most = c.most
  | 0, n, c, hP, I => ⟨I, rfl, rfl⟩
  | f + 1, n, c, hP, I => by
    by_cases hn : n < c.parts.length
    · rw [partsG_step hn]
      obtain ⟨h1, h2, h3, h4⟩ := layM_ok (W := W) hn hP I
      obtain ⟨k1, k2, k3⟩ := partsG_ok (W := W) f (n + 1) _ h4 h1
      exact ⟨k1, k2.trans h2, k3.trans h3⟩
    · rw [partsG_end (by omega)]
      exact ⟨I, rfl, rfl⟩
/-- what comes next of an instruction at a place, as the bytes say -/
def nexts (l : List UInt8) (p d : Int) (z y : Int) : Prop :=
  (jumpsB (decI l p).1 = true ∧ z = (decI l p).2.1 + (decI l p).1.a ∧ y = d - (flowM (decI l p).1).1 + (flowM (decI l p).1).2) ∨
  ((decI l p).1.op = 17 ∧ z = (decI l p).2.1 ∧ y = (decI l p).1.a) ∨
  ((decI l p).1.op ≠ 14 ∧ (decI l p).1.op ≠ 18 ∧ (decI l p).1.op ≠ 19 ∧ z = (decI l p).2.1 + (if (decI l p).1.op = 17 then (decI l p).1.b else 0) ∧ y = d - (flowM (decI l p).1).1 + (flowM (decI l p).1).2)
/-- the run so far: all that is met is right, and leads to what is met or waits -/
structure RunI (l : List UInt8) (c : Ck) (ws : List Gl) : Prop where
  ok : OkI l c
  met : ∀ p d, c.depth p = some d → (∃ n, c.of_ p = some n) ∧ d ≤ c.most ∧ (flowM (decI l p).1).1 ≤ d ∧ d - (flowM (decI l p).1).1 + (flowM (decI l p).1).2 ≤ c.most ∧
    ∀ z y, nexts l p d z y → c.depth z = some y ∨ ∃ g ∈ ws, g.at_ = z ∧ g.deep = y
  first : c.depth 0 = some 0 ∨ ∃ g ∈ ws, g.at_ = 0 ∧ g.deep = 0
theorem runG_fin {l : List UInt8} : ∀ (f : Nat) (c : Ck) (ws : List Gl), RunI l c ws → 4 * unmet l c.depth + ws.length ≤ f → (runG l f c ws).e = 0 → RunI l (runG l f c ws) []
  | 0, c, ws, I, hf, _ => by
    obtain rfl : ws = [] := List.length_eq_zero_iff.1 (by omega)
    exact I
  | f + 1, c, ws, I, hf, he => by
    rcases List.eq_nil_or_concat ws with rfl | ⟨us, g, rfl⟩
    · rw [runG_nil] at he ⊢; exact I
    · rw [List.concat_eq_append] at *
      by_cases hc : c.e = 0
      · rw [runG_step hc] at he ⊢
        by_cases ho : c.of_ g.at_ = some g.part
        · obtain ⟨k, hk, hkl, hdk, hblk⟩ := I.ok.at_ _ _ ho
          cases hd : c.depth g.at_ with
          | some d =>
            rw [run_met ho hd] at he ⊢
            by_cases hdd : d ≠ g.deep
            · rw [if_pos hdd] at he
              rw [runG_err (wrong_ne (by decide))] at he
              exact absurd he (wrong_ne (by decide))
            · rw [if_neg hdd] at he ⊢
              have hdd' : d = g.deep := Classical.not_not.1 hdd
              subst hdd'
              refine runG_fin f c us ⟨I.ok, fun p d hp => ?_, ?_⟩ (by rw [List.length_append, List.length_singleton] at hf; omega) he
              · obtain ⟨h1, h2, h3, h4, h5⟩ := I.met p d hp
                refine ⟨h1, h2, h3, h4, fun z y hn => ?_⟩
                rcases h5 z y hn with h | ⟨g', hg, rfl, rfl⟩
                · exact Or.inl h
                · rcases List.mem_append.1 hg with hg | hg
                  · exact Or.inr ⟨g', hg, rfl, rfl⟩
                  · rw [List.mem_singleton] at hg; subst hg; exact Or.inl hd
              · rcases I.first with h | ⟨g', hg, h1, h2⟩
                · exact Or.inl h
                · rcases List.mem_append.1 hg with hg | hg
                  · exact Or.inr ⟨g', hg, h1, h2⟩
                  · rw [List.mem_singleton] at hg; subst hg; left; rw [h1, h2] at hd; exact hd
          | none =>
            rw [run_new ho hd] at he ⊢
            have hpd : upd c.depth g.at_ g.deep g.at_ = some g.deep := upd_same _ _ _
            have hold : ∀ p d, c.depth p = some d → upd c.depth g.at_ g.deep p = some d := fun p d hp => by
              rw [upd_other _ (by rintro rfl; rw [hd] at hp; cases hp)]; exact hp
            have hst : ∀ (r : Ck × List Gl), r = stepM l { c with depth := upd c.depth g.at_ g.deep } g.at_ → r.1.e = 0 →
                (flowM (decI l g.at_).1).1 ≤ g.deep ∧ r.1.of_ = c.of_ ∧ r.1.blocks = c.blocks ∧ r.1.parts = c.parts ∧ r.1.depth = upd c.depth g.at_ g.deep ∧
                r.1.most = max c.most (max g.deep (g.deep - (flowM (decI l g.at_).1).1 + (flowM (decI l g.at_).1).2)) ∧ r.2.length ≤ 3 ∧
                ∀ z y, nexts l g.at_ g.deep z y → ∃ g' ∈ r.2, g'.at_ = z ∧ g'.deep = y := by
              intro r hr hre
              unfold stepM at hr
              simp only [hpd, ho, Option.getD_some] at hr
              split at hr
              · subst hr; exact absurd hre (wrong_ne (by decide))
              · rename_i hno
                subst hr
                refine ⟨by omega, rfl, rfl, rfl, rfl, rfl, ?_, fun z y hn => ?_⟩
                · simp only [List.length_append]
                  split <;> split <;> split <;> simp
                · simp only
                  have hq : (match c.blocks g.at_ with | some _ => (decI l g.at_).2.1 + (decI l g.at_).1.b | none => (decI l g.at_).2.1) = (decI l g.at_).2.1 + (if (decI l g.at_).1.op = 17 then (decI l g.at_).1.b else 0) := by
                    by_cases h17 : (decI l k).1.op = 17
                    · obtain ⟨j, hj, -⟩ := hblk h17
                      rw [hk, hj, if_pos h17]
                    · cases hb : c.blocks g.at_ with
                      | none => rw [hk, if_neg h17]; simp
                      | some j =>
                        obtain ⟨k', hk', h17'⟩ := I.ok.blk _ _ hb
                        exact absurd (by rw [show k = k' by omega]; exact h17') h17
                  rcases hn with ⟨h1, rfl, rfl⟩ | ⟨h1, rfl, rfl⟩ | ⟨h1, h2, h3, rfl, rfl⟩
                  · refine ⟨⟨(decI l g.at_).2.1 + (decI l g.at_).1.a, g.part, g.deep - (flowM (decI l g.at_).1).1 + (flowM (decI l g.at_).1).2⟩, ?_, rfl, rfl⟩
                    rw [if_pos h1]; simp
                  · rw [hk] at h1
                    obtain ⟨j, hj, P, hP, hf1, hf2⟩ := hblk h1
                    refine ⟨⟨(P.fr : Int), (j : Int), P.deep⟩, ?_, by rw [hk]; exact hf1, by rw [hk]; exact hf2⟩
                    rw [show c.blocks g.at_ = some (j : Int) by rw [hk]; exact hj]
                    simp only [Int.toNat_natCast]
                    rw [List.getD_eq_getElem?_getD, hP]
                    simp
                  · refine ⟨⟨(decI l g.at_).2.1 + (if (decI l g.at_).1.op = 17 then (decI l g.at_).1.b else 0), g.part, g.deep - (flowM (decI l g.at_).1).1 + (flowM (decI l g.at_).1).2⟩, ?_, rfl, rfl⟩
                    rw [if_pos (show (decI l g.at_).1.op ≠ 14 ∧ (decI l g.at_).1.op ≠ 18 ∧ (decI l g.at_).1.op ≠ 19 from ⟨h1, h2, h3⟩), ← hq]
                    exact List.mem_append.2 (Or.inr (List.mem_singleton.2 rfl))
            have hun := unmet_store (l := l) (f := c.depth) (z := g.at_) (y := g.deep) (by omega) (by omega) hd
            generalize hrr : stepM l { c with depth := upd c.depth g.at_ g.deep } g.at_ = r at *
            have hre : r.1.e = 0 := by
              by_cases h : r.1.e = 0
              · exact h
              · rw [runG_err h] at he; exact absurd he h
            obtain ⟨s1, s2, s3, s4, s5, s6, s7, s8⟩ := hst r rfl hre
            refine runG_fin f r.1 (us ++ r.2) ⟨I.ok.same s2 s3 s4, fun p d hp => ?_, ?_⟩ ?_ he
            · rw [s5] at hp ⊢
              rw [s2, s6]
              by_cases hpg : p = g.at_
              · subst hpg
                rw [hpd] at hp
                injection hp with hp
                subst hp
                refine ⟨⟨_, ho⟩, by omega, s1, by omega, fun z y hn => ?_⟩
                obtain ⟨g', hg', h1, h2⟩ := s8 z y hn
                exact Or.inr ⟨g', List.mem_append.2 (Or.inr hg'), h1, h2⟩
              · rw [upd_other _ hpg] at hp
                obtain ⟨h1, h2, h3, h4, h5⟩ := I.met p d hp
                refine ⟨h1, by omega, h3, by omega, fun z y hn => ?_⟩
                rcases h5 z y hn with h | ⟨g', hg, rfl, rfl⟩
                · exact Or.inl (hold _ _ h)
                · rcases List.mem_append.1 hg with hg | hg
                  · exact Or.inr ⟨g', List.mem_append.2 (Or.inl hg), rfl, rfl⟩
                  · rw [List.mem_singleton] at hg; subst hg; exact Or.inl hpd
            · rw [s5]
              rcases I.first with h | ⟨g', hg, h1, h2⟩
              · exact Or.inl (hold _ _ h)
              · rcases List.mem_append.1 hg with hg | hg
                · exact Or.inr ⟨g', List.mem_append.2 (Or.inl hg), h1, h2⟩
                · rw [List.mem_singleton] at hg; subst hg; left; rw [h1, h2] at hpd ⊢; exact hpd
            · rw [s5]
              rw [List.length_append] at hf ⊢
              rw [List.length_singleton] at hf
              omega
        · rw [run_out ho] at he
          rw [runG_err (wrong_ne (by decide))] at he
          exact absurd he (wrong_ne (by decide))
      · rw [runG_err hc] at he; exact absurd he hc
/-- Check found nothing wrong: depths, as the law goes through them -/
structure Right (l : List UInt8) (mx : Int) (dep : Int → Option Int) : Prop where
  first : dep 0 = some 0
  le : mx ≤ 200
  at_ : ∀ p d, dep p = some d → ∃ k : Nat, p = k ∧ k < l.length ∧ (decI l k).2.2 = 0 ∧ d ≤ mx ∧ (flowM (decI l k).1).1 ≤ d ∧ d - (flowM (decI l k).1).1 + (flowM (decI l k).1).2 ≤ mx ∧
    ∀ z y, nexts l k d z y → dep z = some y
theorem check_right {l : List UInt8} {W : Wd} (h : (checkM l W).2 = 0) : ∃ dep, Right l (checkM l W).1 dep := by
  unfold checkM at h ⊢
  simp only at h ⊢
  by_cases hc : (checkC l W).e = 0
  · rw [if_neg (by simp [hc])]
    unfold checkC at hc ⊢
    simp only at hc ⊢
    obtain ⟨p1, p2, p3⟩ := partsG_ok (l := l) (W := W) (l.length + 1) 0 (ck0 l) (fun Q hQ => by simp [ck0] at hQ; subst hQ; exact Nat.le_refl _) (fun _ => ⟨(fun p n h => by cases h), (fun p j h => by cases h)⟩)
    generalize partsG l W (l.length + 1) 0 (ck0 l) = c at *
    by_cases hce : c.e = 0
    · rw [if_pos hce] at hc ⊢
      unfold runM at hc ⊢
      simp only at hc ⊢
      by_cases hm : (runG l (4 * l.length + 4) c [⟨0, 0, 0⟩]).e = 0 ∧ 200 < (runG l (4 * l.length + 4) c [⟨0, 0, 0⟩]).most
      · rw [if_pos hm] at hc; cases hc
      · rw [if_neg hm] at hc ⊢
        have hI : RunI l c [⟨0, 0, 0⟩] := ⟨p1 hce, (fun p d hp => by rw [p2] at hp; cases hp), Or.inr ⟨⟨0, 0, 0⟩, by simp, rfl, rfl⟩⟩
        have hR := runG_fin _ c _ hI (by have := unmet_le l c.depth; simp; omega) hc
        refine ⟨(runG l (4 * l.length + 4) c [⟨0, 0, 0⟩]).depth, ?_, by have : ¬ 200 < (runG l (4 * l.length + 4) c [⟨0, 0, 0⟩]).most := fun h => hm ⟨hc, h⟩; omega, fun p d hp => ?_⟩
        · rcases hR.first with h | ⟨g, hg, -⟩
          · exact h
          · cases hg
        · obtain ⟨⟨n, h1⟩, h2, h3, h4, h5⟩ := hR.met p d hp
          obtain ⟨k, rfl, hk, he, -⟩ := hR.ok.at_ p n h1
          refine ⟨k, rfl, hk, he, h2, h3, h4, fun z y hn => ?_⟩
          rcases h5 z y hn with h | ⟨g, hg, -⟩
          · exact h
          · cases hg
    · rw [if_neg hce] at hc; exact absurd hc hce
  · rw [if_pos hc] at h; exact absurd h hc
end Go.Proofs.YtnajgpefmknmpaaDoor
