/- What laying the parts keeps, in plain Lean. -/
import Derived.Test.YtnajgpefmknmpaaDoorChkP
namespace Go.Proofs.YtnajgpefmknmpaaDoor
open Go.RowKit
set_option linter.unusedVariables false
/-- the parts' weight: what is still to be gone through -/
def wt : List Pt → Nat
  | [] => 0
  | P :: l => P.to_ - P.fr + 1 + wt l
theorem wt_append : ∀ a b : List Pt, wt (a ++ b) = wt a + wt b
  | [], b => by simp [wt]
  | P :: a, b => by simp [wt, wt_append a b]; omega
theorem layC1_inv {l : List UInt8} {W : Wd} {n p : Nat} {x : Ins} {c : Ck} {D : Int} (I : Inv l c D) (hp : p < l.length) (hn : n < c.parts.length) : Inv l (layC1 W n p x c) D :=
  ⟨I.parts, fun z y hz => by
    by_cases hzp : z = (p : Int)
    · subst hzp
      have : upd c.of_ p n p = some y := hz
      rw [upd_same] at this
      injection this with this
      subst this
      show 0 ≤ (p : Int) ∧ (p : Int) < l.length ∧ 0 ≤ (n : Int) ∧ (n : Int) < c.parts.length
      omega
    · have : upd c.of_ p n z = some y := hz
      rw [upd_other _ hzp] at this
      exact I.of_ z y this, I.blocks, I.depth, I.most⟩
theorem block_inv {l : List UInt8} {c : Ck} {D : Int} {p : Nat} {P : Pt} (I : Inv l c D) (hP : P.fr ≤ P.to_ ∧ P.to_ ≤ l.length ∧ 0 ≤ P.deep ∧ P.deep ≤ 65536) :
    Inv l { c with blocks := upd c.blocks p c.parts.length, parts := c.parts ++ [P] } D := by
  refine ⟨fun Q hQ => ?_, fun z y hz => ?_, fun z y hz => ?_, I.depth, I.most⟩
  · rcases List.mem_append.1 hQ with hQ | hQ
    · exact I.parts Q hQ
    · rw [List.mem_singleton] at hQ; subst hQ; exact hP
  · obtain ⟨h1, h2, h3, h4⟩ := I.of_ z y hz
    refine ⟨h1, h2, h3, ?_⟩
    show y < ((c.parts ++ [P]).length : Int)
    rw [List.length_append, List.length_singleton]; omega
  · show 0 ≤ y ∧ y < ((c.parts ++ [P]).length : Int)
    rw [List.length_append, List.length_singleton]
    by_cases hzp : z = (p : Int)
    · subst hzp
      have : upd c.blocks p c.parts.length p = some y := hz
      rw [upd_same] at this
      injection this with this
      omega
    · have : upd c.blocks p c.parts.length z = some y := hz
      rw [upd_other _ hzp] at this
      have := I.blocks z y this
      omega
theorem layG_inv {l : List UInt8} {W : Wd} {P : Pt} {n : Nat} {D : Int} (hto : P.to_ ≤ l.length) : ∀ (f p : Nat) (gs : List Int) (c : Ck), p ≤ P.to_ → Inv l c D → n < c.parts.length →
    Inv l (layG l W P n f p gs c).2 D ∧ ∃ new, (layG l W P n f p gs c).2.parts = c.parts ++ new ∧ wt new + p ≤ P.to_
  | 0, p, gs, c, hp, I, hn => ⟨I, [], by simp [layG], by simpa [wt] using hp⟩
  | f + 1, p, gs, c, hp, I, hn => by
    by_cases hlt : p < P.to_
    · have hdl : p < (l.take P.to_).length := by rw [List.length_take]; omega
      by_cases he : (decI (l.take P.to_) p).2.2 = 0
      · obtain ⟨cc, hc20, -, hxo, hbh, hbq, ha, hb⟩ := dec_ok hdl he
        have hd : decI (l.take P.to_) p = ((decI (l.take P.to_) p).1, ((p + 1 + (fmOf (cc : Int)).a + (fmOf (cc : Int)).b : Nat) : Int), 0) := by
          rw [← hbh, ← he]
        have hb0 := dec_b0 hdl he
        rw [List.length_take] at hbq
        have I1 := layC1_inv (W := W) (x := (decI (l.take P.to_) p).1) I (show p < l.length by omega) hn
        by_cases hx : (decI (l.take P.to_) p).1.op = 17
        · have h17 : cc = 17 := by omega
          by_cases ho : P.to_ < p + 1 + (fmOf (cc : Int)).a + (fmOf (cc : Int)).b + (decI (l.take P.to_) p).1.b.toNat
          · rw [layG_over hlt hd hx ho]
            exact ⟨I1.err _, [], by simp [layC1], by simpa [wt] using hp⟩
          · rw [layG_block hlt hd hx ho]
            have hr := dec_range hdl he
            have ha0 : 0 ≤ (decI (l.take P.to_) p).1.a := by
              rw [ha, h17]
              show 0 ≤ getZ _ false
              unfold getZ; simp
            have I2 := block_inv (p := p) (P := ⟨p + 1 + (fmOf (cc : Int)).a + (fmOf (cc : Int)).b, p + 1 + (fmOf (cc : Int)).a + (fmOf (cc : Int)).b + (decI (l.take P.to_) p).1.b.toNat, (decI (l.take P.to_) p).1.a, true⟩) I1 ⟨by simp only; omega, by simp only; omega, ha0, by simp only; omega⟩
            obtain ⟨J, new, h1, h2⟩ := layG_inv (W := W) hto f (p + 1 + (fmOf (cc : Int)).a + (fmOf (cc : Int)).b + (decI (l.take P.to_) p).1.b.toNat) (layG1 ((p + 1 + (fmOf (cc : Int)).a + (fmOf (cc : Int)).b : Nat) : Int) (decI (l.take P.to_) p).1 gs) _ (by omega) I2 (by show n < (c.parts ++ [_]).length; rw [List.length_append]; omega)
            refine ⟨J, (⟨p + 1 + (fmOf (cc : Int)).a + (fmOf (cc : Int)).b, p + 1 + (fmOf (cc : Int)).a + (fmOf (cc : Int)).b + (decI (l.take P.to_) p).1.b.toNat, (decI (l.take P.to_) p).1.a, true⟩ : Pt) :: new, ?_, ?_⟩
            · exact h1.trans (by show (c.parts ++ [_]) ++ new = _; rw [List.append_assoc]; rfl)
            · unfold wt; simp only; omega
        · rw [layG_plain hlt hd hx]
          obtain ⟨J, new, h1, h2⟩ := layG_inv (W := W) hto f (p + 1 + (fmOf (cc : Int)).a + (fmOf (cc : Int)).b) (layG1 ((p + 1 + (fmOf (cc : Int)).a + (fmOf (cc : Int)).b : Nat) : Int) (decI (l.take P.to_) p).1 gs) _ (by omega) I1 hn
          exact ⟨J, new, h1, by omega⟩
      · rw [layG_bad hlt he]
        exact ⟨I.err _, [], by simp, by simpa [wt] using hp⟩
    · rw [layG_end (by omega)]
      exact ⟨I, [], by simp, by simpa [wt] using hp⟩
theorem layM_inv {l : List UInt8} {W : Wd} {n : Nat} {c : Ck} {D : Int} (I : Inv l c D) (hn : n < c.parts.length) :
    Inv l (layM l W n c) D ∧ c.parts.length ≤ (layM l W n c).parts.length ∧ wt ((layM l W n c).parts.drop (n + 1)) + 1 ≤ wt (c.parts.drop n) := by
  have hP := I.parts _ (part_in hn)
  have hg : c.parts.getD n ⟨0, 0, 0, false⟩ = c.parts[n] := by rw [List.getD_eq_getElem?_getD, List.getElem?_eq_getElem hn]; rfl
  rw [hg] at hP
  obtain ⟨J, new, h1, h2⟩ := layG_inv (W := W) (n := n) (P := c.parts[n]) hP.2.1 ((c.parts[n]).to_ - (c.parts[n]).fr) (c.parts[n]).fr [] c hP.1 I hn
  unfold layM
  simp only [hg]
  refine ⟨J.err _, ?_, ?_⟩
  · show c.parts.length ≤ (layG l W c.parts[n] n _ _ [] c).2.parts.length
    rw [h1, List.length_append]; omega
  · show wt ((layG l W c.parts[n] n _ _ [] c).2.parts.drop (n + 1)) + 1 ≤ _
    rw [h1, List.drop_append_of_le_length (by omega), wt_append, List.drop_eq_getElem_cons hn]
    simp only [wt]; omega
theorem wt_len : ∀ L : List Pt, L.length ≤ wt L
  | [] => Nat.le_refl _
  | P :: L => by have := wt_len L; simp only [wt, List.length_cons]; omega
theorem ck0_inv (l : List UInt8) : Inv l (ck0 l) 65536 :=
  ⟨fun P hP => by
    have : P = ⟨0, l.length, 0, false⟩ := by simpa [ck0] using hP
    subst this; exact ⟨Nat.zero_le _, Nat.le_refl _, Int.le_refl 0, by show (0 : Int) ≤ 65536; decide⟩, (fun z y h => by cases h), (fun z y h => by cases h), (fun z y h => by cases h), by show -65536 ≤ (0 : Int) ∧ (0 : Int) ≤ 65536; decide⟩
theorem partsG_end {l : List UInt8} {W : Wd} {f n : Nat} {c : Ck} (h : c.parts.length ≤ n) : partsG l W f n c = c := by
  cases f with
  | zero => rfl
  | succ f => unfold partsG; rw [if_pos h]
theorem partsG_step {l : List UInt8} {W : Wd} {f n : Nat} {c : Ck} (h : n < c.parts.length) : partsG l W (f + 1) n c = partsG l W f (n + 1) (layM l W n c) := by
  conv => lhs; unfold partsG
  rw [if_neg (by omega)]
end Go.Proofs.YtnajgpefmknmpaaDoor
