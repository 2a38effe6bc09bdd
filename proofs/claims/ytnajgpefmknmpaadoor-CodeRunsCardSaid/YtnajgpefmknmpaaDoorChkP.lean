/- What holds of the checker all along, in plain Lean. -/
import Derived.Test.YtnajgpefmknmpaaDoorChkB
namespace Go.Proofs.YtnajgpefmknmpaaDoor
open Go.RowKit
set_option linter.unusedVariables false
theorem Inv.mono {l : List UInt8} {c : Ck} {D E : Int} (I : Inv l c D) (h : D ≤ E) : Inv l c E :=
  ⟨I.parts, I.of_, I.blocks, fun z y hz => by have := I.depth z y hz; omega, by have := I.most; omega⟩
theorem Inv.err {l : List UInt8} {c : Ck} {D : Int} (I : Inv l c D) (e : Int) : Inv l { c with e := e } D := ⟨I.parts, I.of_, I.blocks, I.depth, I.most⟩
/-- a goal within bounds -/
def GlOk (D : Int) (g : Gl) : Prop := -1000000 ≤ g.at_ ∧ g.at_ ≤ 1000000 ∧ -1000000 ≤ g.part ∧ g.part ≤ 1000000 ∧ -D ≤ g.deep ∧ g.deep ≤ D
theorem GlOk.mono {D E : Int} {g : Gl} (h : GlOk D g) (hE : D ≤ E) : GlOk E g := by unfold GlOk at *; omega
theorem part_in {c : Ck} {k : Nat} (hk : k < c.parts.length) : c.parts.getD k ⟨0, 0, 0, false⟩ ∈ c.parts := by
  rw [List.getD_eq_getElem?_getD, List.getElem?_eq_getElem hk]; exact List.getElem_mem hk
/-- a step keeps it, and its goals are within bounds -/
theorem stepM_inv {l : List UInt8} {c : Ck} {p : Int} {n : Nat} {D : Int} (hl : l.length ≤ 2000) (I : Inv l c D) (hp : c.of_ p = some (n : Int)) (hpl : c.parts.length ≤ 100000) (hD : 65536 ≤ D) :
    Inv l (stepM l c p).1 (D + 100002) ∧ (∀ g ∈ (stepM l c p).2, GlOk (D + 100002) g) ∧ (stepM l c p).2.length ≤ 3 ∧ (stepM l c p).1.of_ = c.of_ ∧ (stepM l c p).1.parts = c.parts ∧ (stepM l c p).1.depth = c.depth ∧ (stepM l c p).1.blocks = c.blocks := by
  obtain ⟨p0, p1, n0, n1⟩ := I.of_ _ _ hp
  obtain ⟨⟨o1, o2⟩, ⟨a1, a2⟩, ⟨b1, b2⟩, h1, h2⟩ := dec_bd l p (by omega)
  obtain ⟨⟨t1, t2⟩, t3, t4⟩ := flow_bd (decI l p).1 ⟨b1, b2⟩
  have hm := I.most
  have hdep : -D ≤ (c.depth p).getD 0 ∧ (c.depth p).getD 0 ≤ D := by
    cases hd : c.depth p with
    | none => show -D ≤ 0 ∧ 0 ≤ D; omega
    | some y => exact I.depth _ _ hd
  have HST : stepM l c p = if (c.depth p).getD 0 < (flowM (decI l p).1).1 ∨ ((decI l p).1.op = 19 ∧ (c.parts.getD n ⟨0, 0, 0, false⟩).blk = false) then ({ c with e := wrongE c.e 3 }, []) else ({ c with most := max c.most (max ((c.depth p).getD 0) ((c.depth p).getD 0 - (flowM (decI l p).1).1 + (flowM (decI l p).1).2)) }, nextG c p n ((c.depth p).getD 0 - (flowM (decI l p).1).1 + (flowM (decI l p).1).2) (decI l p).2.1 (decI l p).1) := by
    unfold stepM nextG
    rw [hp]
    simp only [Option.getD_some, Int.toNat_natCast]
    rfl
  rw [HST]
  split
  · exact ⟨(I.err _).mono (by omega), (fun g hg => by cases hg), by simp, rfl, rfl, rfl, rfl⟩
  · rename_i hn
    have hge : (flowM (decI l p).1).1 ≤ (c.depth p).getD 0 := by
      rcases Int.lt_or_le ((c.depth p).getD 0) (flowM (decI l p).1).1 with h | h
      · exact absurd (Or.inl h) hn
      · exact h
    generalize hnx : (c.depth p).getD 0 - (flowM (decI l p).1).1 + (flowM (decI l p).1).2 = nx
    have hnx1 : 0 ≤ nx := by omega
    have hnx2 : nx ≤ D + 100002 := by omega
    refine ⟨⟨I.parts, I.of_, I.blocks, fun z y hz => by have := I.depth z y hz; omega, ?_⟩, ?_, ?_, rfl, rfl, rfl, rfl⟩
    · show -(D + 100002) ≤ max c.most (max ((c.depth p).getD 0) nx) ∧ max c.most (max ((c.depth p).getD 0) nx) ≤ D + 100002
      omega
    · intro g hg
      unfold nextG at hg
      rcases List.mem_append.1 hg with hg | hg
      · rcases List.mem_append.1 hg with hg | hg
        · unfold jmpG at hg
          split at hg
          · rw [List.mem_singleton] at hg; subst hg; unfold GlOk; simp only; omega
          · cases hg
        · unfold blkG at hg
          split at hg
          · rename_i k hk
            obtain ⟨k0, k1⟩ := I.blocks p k hk
            rw [List.mem_singleton] at hg; subst hg
            have hpt := I.parts _ (part_in (c := c) (k := k.toNat) (by omega))
            unfold GlOk; simp only; omega
          · cases hg
      · unfold nxtG at hg
        split at hg
        · rw [List.mem_singleton] at hg; subst hg
          have hq : -1000000 ≤ blkQ c p (decI l p).2.1 (decI l p).1 ∧ blkQ c p (decI l p).2.1 (decI l p).1 ≤ 1000000 := by
            unfold blkQ; split <;> omega
          unfold GlOk; simp only; omega
        · cases hg
    · unfold nextG jmpG blkG nxtG
      rw [List.length_append, List.length_append]
      split <;> split <;> split <;> simp
/-- how many places have no depth yet -/
def unmet (l : List UInt8) (f : Int → Option Int) : Nat := ((List.range l.length).filter fun z : Nat => (f (z : Int)).isNone).length
theorem unmet_le (l : List UInt8) (f : Int → Option Int) : unmet l f ≤ l.length := by
  unfold unmet
  have := List.length_filter_le (fun z : Nat => (f (z : Int)).isNone) (List.range l.length)
  rwa [List.length_range] at this
theorem filter_strike {α : Type} (p q : α → Bool) (a : α) : ∀ (L : List α), (∀ x, q x = true → p x = true) → a ∈ L → p a = true → q a = false → (L.filter q).length + 1 ≤ (L.filter p).length
  | [], _, h, _, _ => by cases h
  | x :: L, hqp, h, hp, hq => by
    have hle : (L.filter q).length ≤ (L.filter p).length := by
      clear h
      induction L with
      | nil => exact Nat.le_refl _
      | cons y L ih =>
        rw [List.filter_cons, List.filter_cons]
        cases hqy : q y
        · simp only [Bool.false_eq_true, if_false]
          split
          · rw [List.length_cons]; omega
          · exact ih
        · rw [hqp y hqy]; simp only [if_true, List.length_cons]; omega
    rw [List.filter_cons, List.filter_cons]
    rcases List.mem_cons.1 h with rfl | h
    · rw [hp, hq]; simp; omega
    · have := filter_strike p q a L hqp h hp hq
      cases hqx : q x
      · simp only [Bool.false_eq_true, if_false]
        split
        · rw [List.length_cons]; omega
        · exact this
      · rw [hqp x hqx]; simp only [if_true, List.length_cons]; omega
theorem unmet_store {l : List UInt8} {f : Int → Option Int} {z y : Int} (h0 : 0 ≤ z) (h1 : z < l.length) (hn : f z = none) : unmet l (upd f z y) + 1 ≤ unmet l f := by
  obtain ⟨k, rfl⟩ := Int.eq_ofNat_of_zero_le h0
  refine filter_strike (fun z : Nat => (f (z : Int)).isNone) (fun x : Nat => (upd f k y (x : Int)).isNone) k _ (fun x hx => ?_) (List.mem_range.2 (by omega)) (by rw [hn]; rfl) (by rw [upd_same]; rfl)
  by_cases hxk : (x : Int) = k
  · rw [hxk, upd_same] at hx; cases hx
  · rwa [upd_other _ hxk] at hx
theorem upd_inv {l : List UInt8} {c : Ck} {D z y : Int} (I : Inv l c D) (hy : -D ≤ y ∧ y ≤ D) : Inv l { c with depth := upd c.depth z y } D :=
  ⟨I.parts, I.of_, I.blocks, fun x v hx => by
    by_cases hxz : x = z
    · subst hxz
      have : upd c.depth x y x = some v := hx
      rw [upd_same] at this
      injection this with this; omega
    · have : upd c.depth z y x = some v := hx
      rw [upd_other _ hxz] at this
      exact I.depth _ _ this, I.most⟩
end Go.Proofs.YtnajgpefmknmpaaDoor
