/- A list of names is cut in two; what a reader knows is cut back. -/
import Derived.Test.YtpfgidhchjcomaaMeCasc
namespace Go.Proofs.Ytpfgidhchjcomaa
open Go.RowKit
set_option linter.unusedVariables false
theorem sizeStrE (W : World) : (sizeOf (Try.prog.elem 22)).run Try.prog W = .ok 1 W := by kernel_rfl
theorem sizeKnE (W : World) : (sizeOf (Try.prog.elem 54)).run Try.prog W = .ok 3 W := by kernel_rfl
theorem addr_at (b o j : Nat) : (⟨b, o, none⟩ : Addr).add j = ⟨b, o + j, none⟩ := by unfold Addr.add; split <;> simp_all
theorem strs_head {x : Nat → Prop} {w : World} {v : Value} {l : List ByteArray} (h : StrsX x w v l) (m : Nat) (hm : m ≤ l.length) :
    ∃ pv, StrsX x w pv (l.take m) ∧ ∀ W, (Instr.slice 22 v none (some (.int .i64 (m : Int))) none).run Try.prog W = .ok pv W := by
  obtain ⟨a, cap, rfl, h1, h2, h3, h4, h5⟩ := h
  have hl : (l.take m).length = m := by rw [List.length_take]; omega
  refine ⟨.slice a m cap, ⟨a, cap, by rw [hl], by omega, h2, h3, ?_, fun s hs => h5 s (List.mem_of_mem_take hs)⟩, fun W => ?_⟩
  · rcases h4 with h4 | ⟨b, o, h4, hx, h6⟩
    · left
      rw [List.map_eq_nil_iff] at h4 ⊢
      rw [h4]; simp
    · refine .inr ⟨b, o, h4, hx, fun j hj => ?_⟩
      rw [List.length_map, hl] at hj
      rw [h6 j (by rw [List.length_map]; omega), List.getElem?_map, List.getElem?_map, List.getElem?_take_of_lt hj]
  · have := run_slice_h (P := Try.prog) (w := W) 22 a l.length cap (by kernel_rfl) .i64 (m : Int) (by omega) (by omega)
    rw [this, sizeStrE]
    simp only [Result.andThen, sliced, Int.toNat_natCast, Nat.zero_mul, Nat.sub_zero]
    split
    · rfl
    · cases a with
      | none => rfl
      | some q => simp [Addr.add]
theorem strs_rest {x : Nat → Prop} {w : World} {v : Value} {l : List ByteArray} (h : StrsX x w v l) (m : Nat) (hm : m ≤ l.length) :
    ∃ tv, StrsX x w tv (l.drop m) ∧ ∀ W, (Instr.slice 22 v (some (.int .i64 (m : Int))) none none).run Try.prog W = .ok tv W := by
  obtain ⟨a, cap, rfl, h1, h2, h3, h4, h5⟩ := h
  have hl : (l.drop m).length = l.length - m := by rw [List.length_drop]
  refine ⟨.slice (if cap = m then a else a.map (·.add (m * 1))) (l.length - m) (cap - m), ⟨_, _, by rw [hl], by omega, by omega, fun e => ?_, ?_, fun s hs => h5 s (List.mem_of_mem_drop hs)⟩, fun W => ?_⟩
  · split at e
    · omega
    · cases a with
      | none => have := h3 rfl; omega
      | some q => cases e
  · rcases h4 with h4 | ⟨b, o, h4, hx, h6⟩
    · left
      rw [List.map_eq_nil_iff] at h4 ⊢
      rw [h4]; simp
    · by_cases hc : cap = m
      · left
        rw [List.map_eq_nil_iff]
        exact List.drop_eq_nil_of_le (by omega)
      · refine .inr ⟨b, o + m, ?_, hx, fun j hj => ?_⟩
        · rw [if_neg hc, h4, Option.map_some, addr_at, Nat.mul_one]
        · rw [List.length_map, hl] at hj
          rw [show o + m + j = o + (m + j) by omega, h6 (m + j) (by rw [List.length_map]; omega), List.getElem?_map, List.getElem?_map, List.getElem?_drop]
  · have := run_slice_l (P := Try.prog) (w := W) 22 a l.length cap (by kernel_rfl) .i64 (m : Int) (by omega) (by omega)
    rw [this, sizeStrE]
    simp only [Result.andThen, sliced, Int.toNat_natCast]
theorem declAll_ext (F : List ByteArray) : ∀ (l : List (ByteArray × Int)) (kn : List Kn) (sl : Nat) (q : List Kn × Nat), declAll F kn sl l = some q → ∃ x, q.1 = kn ++ x
  | [], kn, sl, q, h => by cases h; exact ⟨[], by simp⟩
  | y :: l, kn, sl, q, h => by
    unfold declAll at h
    split at h
    · cases h
    · obtain ⟨x, e⟩ := declAll_ext F l _ _ q h
      exact ⟨_, e.trans (List.append_assoc _ _ _)⟩
/-- what a reader knows is cut back -/
theorem RsAt.pop {B : Nat} {w : World} {p : Nat} {kn x : List Kn} {slots : Nat} {fv gv v : Value} {F G : List ByteArray} (h : RsAt B w p (kn ++ x) slots fv gv F G) (hv : w.cell? ⟨p, 0, none⟩ = some v) :
    ∃ pv, (∃ pa pc, pv = .slice pa kn.length pc) ∧ (∀ W, (Instr.slice 54 v none (some (.int .i64 (kn.length : Int))) none).run Try.prog W = .ok pv W) ∧ RsAt B (w.setCell ⟨p, 0, none⟩ pv) p kn slots fv gv F G ∧ Kt p w (w.setCell ⟨p, 0, none⟩ pv) ∧ Below B w (w.setCell ⟨p, 0, none⟩ pv) := by
  have hty := h.ty
  obtain ⟨⟨v0, h1, h2⟩, h3, h4, h5, h6, h7, h8⟩ := h
  have hv0 := cell_of_row w p 0 _ _ _ h1
  rw [hv] at hv0
  simp at hv0
  subst hv0
  have hlp := (Array.getElem?_eq_some_iff.1 h1).1
  have hset : ∀ pv, pv.ownBlock = v.ownBlock → w.ownsRow B 91 3 pv kn.length (knC kn) → RsAt B (w.setCell ⟨p, 0, none⟩ pv) p kn slots fv gv F G ∧ Kt p w (w.setCell ⟨p, 0, none⟩ pv) ∧ Below B w (w.setCell ⟨p, 0, none⟩ pv) := by
    intro pv he ho
    have hne : ∀ g, pv.ownBlock = some g → g ≠ p := fun g hg e => by
      subst e
      rcases ho.2 with ⟨rfl, h0⟩ | ⟨g', cap, cur, rfl, -, hh, -⟩
      · cases hg
      · injection hg with e
        have e' : g' = g := e
        subst e'
        rw [h1] at hh
        injection hh with hh
        injection hh with _ hh _
        exact absurd hh (by decide)
    refine ⟨⟨⟨pv, heap_set (i := 0) h1 pv, own_grown ho fun g hg => heap_set_far (hne g hg)⟩, h3.keep fun k _ hk => heap_set_far (by omega), h4.keep fun k _ hk => heap_set_far (by omega), h5, h6, by rw [List.length_append] at h7; omega, h8⟩, ⟨⟨rfl, rfl, rfl, by simp, fun k _ hS => heap_set_far fun e => hS (.inl e)⟩, fun k ⟨v', e1, e2⟩ => .inl ⟨v, hv, ?_⟩⟩, (Below.refl _ _).setCell (p := ⟨p, 0, none⟩) h5 _⟩
    have := cell_of_row _ p 0 _ _ _ (heap_set (i := 0) h1 pv)
    rw [e1] at this
    simp at this
    subst this
    exact he ▸ e2
  rcases h2.2 with ⟨rfl, h0⟩ | ⟨g, cap, cur, rfl, hB, hg, hn, hcm, hs, ht⟩
  · rw [List.length_append] at h0
    obtain rfl : kn = [] := List.length_eq_zero_iff.1 (by omega)
    refine ⟨.slice none 0 0, ⟨none, 0, rfl⟩, fun W => ?_, hset _ rfl (World.ownsRow_nil _ _ _ _)⟩
    have := run_slice_h (P := Try.prog) (w := W) 54 none 0 0 (by kernel_rfl) .i64 0 (by omega) (by omega)
    exact this.trans (by rw [sizeKnE]; rfl)
  · rw [List.length_append] at hn
    refine ⟨.slice (some ⟨g, 0, none⟩) kn.length cap, ⟨_, _, rfl⟩, fun W => ?_, hset _ rfl ⟨knC_length kn, .inr ⟨g, cap, cur, rfl, hB, hg, by omega, hcm, hs, ?_⟩⟩⟩
    · have := run_slice_h (P := Try.prog) (w := W) 54 (some ⟨g, 0, none⟩) (kn ++ x).length cap (by kernel_rfl) .i64 (kn.length : Int) (by omega) (by omega)
      rw [this, sizeKnE]
      simp only [Result.andThen, sliced, Int.toNat_natCast, Nat.zero_mul, Nat.sub_zero]
      split
      · rfl
      · simp [Addr.add]
    · have e : knC (kn ++ x) = knC kn ++ knC x := by unfold knC; rw [List.flatMap_append]
      rw [e, List.length_append] at ht
      have h2 : (knC kn ++ knC x).take (kn.length * 3) = knC kn := by rw [← knC_length kn]; exact List.take_left
      have := congrArg (List.take (kn.length * 3)) ht
      rw [h2, List.take_take, Nat.min_eq_left (by omega)] at this
      exact this
end Go.Proofs.Ytpfgidhchjcomaa
