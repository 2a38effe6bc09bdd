/- The plain law: what resolving gives does not hang on a name that stands nowhere in the method. -/
import Derived.Test.YtpfgidhchjcomaaMeOpen
import Derived.Test.YtpfgidhchjcomaaMeOk
namespace Go.Proofs.Ytpfgidhchjcomaa
open Go.RowKit
set_option linter.unusedVariables false
theorem toList_inj {a b : ByteArray} (h : a.toList = b.toList) : a = b := by
  rw [Lib.toList_data, Lib.toList_data] at h
  exact ByteArray.ext (Array.toList_inj.1 h)
theorem sameS_ne {a b : ByteArray} (h : a ≠ b) : sameS a b = false := by
  unfold sameS
  rw [Bool.eq_false_iff]
  intro e
  exact h (toList_inj (by simpa using e))
theorem fieldG_last (F : List ByteArray) (o s : ByteArray) : ∀ n, n ≤ F.length → fieldG (F ++ [o]) s n = fieldG F s n
  | 0, _ => rfl
  | n + 1, h => by
    unfold fieldG
    rw [List.getElem?_append_left (by omega), fieldG_last F o s n (by omega)]
theorem fieldM_last {F : List ByteArray} {o s : ByteArray} (h : s ≠ o) : fieldM (F ++ [o]) s = fieldM F s := by
  unfold fieldM
  rw [List.length_append]
  show fieldG (F ++ [o]) s (F.length + 1) = _
  unfold fieldG
  rw [if_neg, fieldG_last F o s F.length (Nat.le_refl _)]
  · cases F.length <;> rfl
  · rw [List.getElem?_append_right (Nat.le_refl _)]
    simp only [Nat.sub_self, List.getElem?_cons_zero, Option.map_some, Option.some.injEq]
    intro e
    exact h (toList_inj (by simpa using e)).symm
theorem hasM_first {G : List ByteArray} {o s : ByteArray} (h : s ≠ o) : hasM (o :: G) s = hasM G s := by
  unfold hasM
  rw [List.any_cons, sameS_ne h, Bool.false_or]
theorem declBad_last {F : List ByteArray} {o s : ByteArray} (h : s ≠ o) (kn : List Kn) (sl : Nat) (n : Int) : declBad (F ++ [o]) kn sl s n = declBad F kn sl s n := by
  unfold declBad
  rw [fieldM_last h]
theorem declAll_last (F : List ByteArray) (o : ByteArray) : ∀ (l : List (ByteArray × Int)) (kn : List Kn) (sl : Nat), (∀ x, x ∈ l → x.1 ≠ o) → declAll (F ++ [o]) kn sl l = declAll F kn sl l
  | [], kn, sl, _ => rfl
  | x :: l, kn, sl, h => by
    show (if declBad (F ++ [o]) kn sl x.1 x.2 = true then none else _) = if declBad F kn sl x.1 x.2 = true then none else _
    rw [declBad_last (h x List.mem_cons_self), declAll_last F o l _ _ fun y hy => h y (List.mem_cons_of_mem _ hy)]
theorem namesP_mem {l : List ByteArray} {o : ByteArray} (h : ∀ s, s ∈ l → s ≠ o) : ∀ x, x ∈ namesP l → x.1 ≠ o := by
  intro x hx
  unfold namesP at hx
  obtain ⟨i, hi, rfl⟩ := List.mem_map.1 hx
  have hil := List.mem_range.1 hi
  rw [List.getElem?_eq_getElem hil]
  exact h _ (List.getElem_mem hil)
theorem namesV_mem {l : List ByteArray} {o : ByteArray} (h : ∀ s, s ∈ l → s ≠ o) : ∀ x, x ∈ namesV l → x.1 ≠ o := by
  intro x hx
  unfold namesV at hx
  obtain ⟨s, hs, rfl⟩ := List.mem_map.1 hx
  exact h s hs
theorem declNames_last {ps ts : List ByteArray} {o : ByteArray} (F : List ByteArray) (hp : ∀ s, s ∈ ps → s ≠ o) (ht : ∀ s, s ∈ ts → s ≠ o) (kn : List Kn) (sl : Nat) : declAll (F ++ [o]) kn sl (namesP ps ++ namesV ts) = declAll F kn sl (namesP ps ++ namesV ts) :=
  declAll_last F o _ kn sl fun x hx => (List.mem_append.1 hx).elim (namesP_mem hp x) (namesV_mem ht x)
/-- o is no name in these nodes, nor within them -/
def noL (o : ByteArray) : Nat → List Nd → Prop
  | 0, _ => True
  | d + 1, l => ∀ n, n ∈ l → n.name ≠ o ∧ (∀ s, s ∈ n.names → s ≠ o) ∧ noL o d n.kids
theorem noL.tail {o : ByteArray} {d : Nat} {l : List Nd} (h : noL o d l) : noL o d l.tail := by
  cases d with
  | zero => trivial
  | succ d => exact fun n hn => h n (List.mem_of_mem_tail hn)
theorem resLs_congr {f g : Nat → Nd → Option (It × Nat)} : ∀ (l : List Nd) (s : Nat), (∀ n, n ∈ l → ∀ s, f s n = g s n) → resLs f s l = resLs g s l
  | [], s, _ => rfl
  | n :: l, s, h => by
    unfold resLs
    rw [h n List.mem_cons_self s]
    cases g s n with
    | none => rfl
    | some r =>
      simp only
      rw [resLs_congr l r.2 fun y hy => h y (List.mem_cons_of_mem _ hy)]
theorem sendM_congr {K K' : Kfn} {kn : List Kn} {sl : Nat} {n : Nd} {may : Bool} (h1 : K' kn sl n.kids = K kn sl n.kids) (h2 : K' kn sl n.kids.tail = K kn sl n.kids.tail) : sendM K' kn sl n may = sendM K kn sl n may := by
  unfold sendM
  rw [h1, h2]
theorem itemM_last {F G : List ByteArray} {o : ByteArray} {K K' Kp Kp' : Kfn} {kn : List Kn} {sl : Nat} {n : Nd} (hn : n.name ≠ o) (hs : ∀ s, s ∈ n.names → s ≠ o) (hK : ∀ kn s, K' kn s n.kids = K kn s n.kids) (hT : ∀ kn s, K' kn s n.kids.tail = K kn s n.kids.tail)
    (hKp : ∀ k, k ∈ n.kids → ∀ kn s, Kp' kn s k.kids = Kp kn s k.kids ∧ Kp' kn s k.kids.tail = Kp kn s k.kids.tail) : itemM (F ++ [o]) (o :: G) K' Kp' kn sl n = itemM F G K Kp kn sl n := by
  have e1 : variableM (F ++ [o]) (o :: G) kn n.name = variableM F G kn n.name := by
    unfold variableM
    rw [fieldM_last hn, hasM_first hn]
  have e2 : assignM (F ++ [o]) K' kn sl n = assignM F K kn sl n := by
    unfold assignM assignBad
    rw [fieldM_last hn, hK]
  have e3 : sendM K' kn sl n true = sendM K kn sl n true := sendM_congr (hK _ _) (hT _ _)
  have e4 : cascadeM Kp' kn sl n = cascadeM Kp kn sl n := by
    unfold cascadeM
    rw [resLs_congr n.kids sl fun k hk s => sendM_congr (hKp k hk kn s).1 (hKp k hk kn s).2]
  have e5 : blockM (F ++ [o]) K' kn sl n = blockM F K kn sl n := by
    unfold blockM
    rw [declNames_last F (fun s h => hs s (List.mem_of_mem_take h)) (fun s h => hs s (List.mem_of_mem_drop h))]
    cases declAll F kn sl (namesP (n.names.take n.num.toNat) ++ namesV (n.names.drop n.num.toNat)) with
    | none => rfl
    | some q => simp only; rw [hK]
  unfold itemM
  rw [hK, e1, e2, e3, e4, e5]
theorem lev_last (F G : List ByteArray) (o : ByteArray) : ∀ d, (∀ l, noL o d l → ∀ kn s, (lev (F ++ [o]) (o :: G) d).1 kn s l = (lev F G d).1 kn s l) ∧ (d = 0 ∨ ∃ d', d = d' + 1) ∧ ∀ k, noL o (d - 1) k → ∀ kn s, (lev (F ++ [o]) (o :: G) d).2 kn s k = (lev F G d).2 kn s k
  | 0 => ⟨fun _ _ _ _ => rfl, Or.inl rfl, fun _ _ _ _ => rfl⟩
  | d + 1 => by
    obtain ⟨h1, h2, h3⟩ := lev_last F G o d
    refine ⟨fun l hl kn s => ?_, Or.inr ⟨d, rfl⟩, fun k hk kn s => h1 k hk kn s⟩
    show resLs _ s l = resLs _ s l
    refine resLs_congr l s fun n hn s => ?_
    obtain ⟨q1, q2, q3⟩ := hl n hn
    refine itemM_last q1 q2 (fun kn s => h1 _ q3 kn s) (fun kn s => h1 _ q3.tail kn s) fun k hk kn s => ?_
    have hk' : noL o (d - 1) k.kids := by
      rcases h2 with rfl | ⟨d', rfl⟩
      · trivial
      · exact (q3 k hk).2.2
    exact ⟨h3 _ hk' kn s, h3 _ hk'.tail kn s⟩
theorem resolveM_last {F G : List ByteArray} {o : ByteArray} {d : Nat} {nm : ByteArray} {ps ts : List ByteArray} {pr : Int} {l : List Nd} (hp : ∀ s, s ∈ ps → s ≠ o) (ht : ∀ s, s ∈ ts → s ≠ o) (hl : noL o (d + 1) l) : resolveM (F ++ [o]) (o :: G) d nm ps ts pr l = resolveM F G d nm ps ts pr l := by
  unfold resolveM resM
  rw [declNames_last F hp ht]
  cases declAll F [] 0 (namesP ps ++ namesV ts) with
  | none => rfl
  | some q =>
    simp only
    unfold Kf
    rw [(lev_last F G o (d + 1)).1 l hl]
theorem noL_all {o : ByteArray} : ∀ (d : Nat) (l : List Nd), (∀ n, n ∈ allL d l → n.name ≠ o ∧ ∀ s, s ∈ n.names → s ≠ o) → noL o d l
  | 0, l, _ => trivial
  | d + 1, l, h => fun n hn => by
    have hm : ∀ (l : List Nd), n ∈ l → n ∈ allS (allL d) l ∧ ∀ k, k ∈ allL d n.kids → k ∈ allS (allL d) l := by
      intro l
      induction l with
      | nil => intro h; cases h
      | cons y l ih =>
        intro hy
        show n ∈ y :: (allL d y.kids ++ allS (allL d) l) ∧ ∀ k, k ∈ allL d n.kids → k ∈ y :: (allL d y.kids ++ allS (allL d) l)
        rcases List.mem_cons.1 hy with rfl | hy
        · exact ⟨List.mem_cons_self, fun k hk => List.mem_cons_of_mem _ (List.mem_append_left _ hk)⟩
        · exact ⟨List.mem_cons_of_mem _ (List.mem_append_right _ (ih hy).1), fun k hk => List.mem_cons_of_mem _ (List.mem_append_right _ ((ih hy).2 k hk))⟩
    obtain ⟨h1, h2⟩ := hm l hn
    obtain ⟨q1, q2⟩ := h n h1
    exact ⟨q1, q2, noL_all d n.kids fun k hk => h k (h2 k hk)⟩
end Go.Proofs.Ytpfgidhchjcomaa
