/- How many items resolving gives at each place. -/
import Derived.Test.YtpfgidhchjcomaaMeLawQ
namespace Go.Proofs.Ytpfgidhchjcomaa
open Go.RowKit
set_option linter.unusedVariables false
theorem resLs_all {f : Nat → Nd → Option (It × Nat)} {P : It → Prop} : ∀ (l : List Nd) (s : Nat) (q : List It × Nat), (∀ n, n ∈ l → ∀ s r, f s n = some r → P r.1) → resLs f s l = some q → ∀ i, i ∈ q.1 → P i
  | [], s, q, h, e, i, hi => by cases e; cases hi
  | n :: l, s, q, h, e, i, hi => by
    change (match f s n with | none => none | some r => (resLs f r.2 l).map fun (z : List It × Nat) => (r.1 :: z.1, z.2)) = some q at e
    cases hf : f s n with
    | none => rw [hf] at e; cases e
    | some r =>
      rw [hf] at e
      simp only at e
      cases hz : resLs f r.2 l with
      | none => rw [hz] at e; cases e
      | some z =>
        rw [hz] at e
        injection e with e
        subst e
        rcases List.mem_cons.1 hi with rfl | hi
        · exact h n List.mem_cons_self s r hf
        · exact resLs_all l r.2 z (fun y hy => h y (List.mem_cons_of_mem _ hy)) hz i hi
theorem smI_nil (d : Nat) : smI d [] := by
  cases d with
  | zero => trivial
  | succ d => exact ⟨Nat.zero_le _, fun n hn => by cases hn⟩
theorem smI_cons {d : Nat} {i : It} {l : List It} (hi : i.kids = []) (h : smI d l) (hl : l.length ≤ 200) : smI d (i :: l) := by
  cases d with
  | zero => trivial
  | succ d =>
    refine ⟨by simp only [List.length_cons]; omega, fun n hn => ?_⟩
    rcases List.mem_cons.1 hn with rfl | hn
    · rw [hi]; exact smI_nil d
    · exact h.2 n hn
theorem map_some {α β : Type} {f : α → β} {o : Option α} {b : β} (h : o.map f = some b) : ∃ a, o = some a ∧ f a = b := by
  cases o with
  | none => cases h
  | some a => exact ⟨a, rfl, by injection h⟩
theorem variable_kids' {F G : List ByteArray} {kn : List Kn} {s : ByteArray} {i : It} (h : variableM F G kn s = some i) : i.kids = [] := variable_kids F G kn s i h
theorem sendM_kids {K : Kfn} {kn : List Kn} {sl : Nat} {n : Nd} {may : Bool} {r : It × Nat} (h : sendM K kn sl n may = some r) : (∃ q, K kn sl n.kids = some q ∧ r.1.kids = q.1) ∨ (may = true ∧ ∃ q, K kn sl n.kids.tail = some q ∧ ∃ i : It, i.kids = [] ∧ r.1.kids = i :: q.1) := by
  unfold sendM at h
  split at h
  · cases h
  · split at h
    · rename_i hs
      obtain ⟨q, hq, rfl⟩ := map_some h
      exact Or.inr ⟨(Bool.and_eq_true_iff.1 hs).2, q, hq, _, rfl, rfl⟩
    · obtain ⟨q, hq, rfl⟩ := map_some h
      exact Or.inl ⟨q, hq, rfl⟩
theorem lev_len (F G : List ByteArray) {d : Nat} {kn : List Kn} {s : Nat} {l : List Nd} (hl : okL d l) {r : List It × Nat} (h : (lev F G d).1 kn s l = some r) : r.1.length ≤ 200 := by
  cases d with
  | zero => injection h with h; rw [← h]; exact Nat.zero_le _
  | succ d =>
    have := resLs_len _ l s r h
    have := hl.1
    omega
theorem item_sm {F G : List ByteArray} {d : Nat} {kn : List Kn} {sl : Nat} {n : Nd} {r : It × Nat} (hl : okL d n.kids)
    (hK : ∀ l, okL d l → ∀ kn s r, (lev F G d).1 kn s l = some r → smI d r.1) (hP : ∀ k, okL (d - 1) k → ∀ kn s r, (lev F G d).2 kn s k = some r → smI (d - 1) r.1)
    (h : itemM F G (lev F G d).1 (lev F G d).2 kn sl n = some r) : smI d r.1.kids := by
  unfold itemM at h
  split at h
  · obtain ⟨q, hq, rfl⟩ := map_some h
    exact hK _ hl _ _ _ hq
  · split at h
    · obtain ⟨i, hi, rfl⟩ := map_some h
      show smI d i.kids
      rw [variable_kids' hi]
      exact smI_nil d
    · split at h
      · unfold assignM at h
        split at h
        · cases h
        · split at h
          · cases h
          · rename_i q hq
            split at h
            · injection h with h; subst h; exact hK _ hl _ _ _ hq
            · injection h with h; subst h; exact hK _ hl _ _ _ hq
      · split at h
        · rcases sendM_kids h with ⟨q, hq, e⟩ | ⟨-, q, hq, i, hi, e⟩
          · rw [e]; exact hK _ hl _ _ _ hq
          · rw [e]; exact smI_cons hi (hK _ hl.tail _ _ _ hq) (lev_len F G hl.tail hq)
        · split at h
          · unfold cascadeM at h
            obtain ⟨q, hq, rfl⟩ := map_some h
            show smI d q.1
            cases d with
            | zero => trivial
            | succ d =>
              have h1 := resLs_len _ n.kids sl q hq
              have h2 := hl.1
              refine ⟨by omega, resLs_all (P := fun i => smI d i.kids) n.kids sl q (fun k hk s r hr => ?_) hq⟩
              rcases sendM_kids hr with ⟨q', hq', e⟩ | ⟨hm, -⟩
              · rw [e]; exact hP _ (hl.2 k hk).2 _ _ _ hq'
              · cases hm
          · split at h
            · unfold blockM at h
              split at h
              · cases h
              · obtain ⟨q, hq, rfl⟩ := map_some h
                exact hK _ hl _ _ _ hq
            · split at h
              · obtain ⟨q, hq, rfl⟩ := map_some h
                exact hK _ hl _ _ _ hq
              · injection h with h; subst h; exact smI_nil d
theorem lev_sm (F G : List ByteArray) : ∀ d, (∀ l, okL d l → ∀ kn s r, (lev F G d).1 kn s l = some r → smI d r.1) ∧ ∀ k, okL (d - 1) k → ∀ kn s r, (lev F G d).2 kn s k = some r → smI (d - 1) r.1
  | 0 => ⟨fun _ _ _ _ _ _ => trivial, fun _ _ _ _ _ _ => trivial⟩
  | d + 1 => by
    obtain ⟨h1, h2⟩ := lev_sm F G d
    refine ⟨fun l hl kn s r hr => ⟨by have := lev_len F G hl hr; omega, ?_⟩, fun k hk kn s r hr => h1 k hk kn s r hr⟩
    exact resLs_all (P := fun i => smI d i.kids) l s r (fun n hn s' r' hr' => item_sm (hl.2 n hn).2 h1 h2 hr') hr
theorem resolve_sm {F G : List ByteArray} {d : Nat} {nm : ByteArray} {ps ts : List ByteArray} {pr : Int} {l : List Nd} {q : List It × Nat} (h : resolveM F G d nm ps ts pr l = some q) (hl : lenL (d + 1) l) : smI (d + 1) q.1 := by
  by_cases hc : checkM d nm ps ts pr l = 0
  · unfold resolveM at h
    rw [if_pos hc] at h
    unfold resM at h
    split at h
    · cases h
    · exact (lev_sm F G (d + 1)).1 l (okL_check hc hl) _ _ _ h
  · unfold resolveM at h
    rw [if_neg hc] at h
    cases h
end Go.Proofs.Ytpfgidhchjcomaa
