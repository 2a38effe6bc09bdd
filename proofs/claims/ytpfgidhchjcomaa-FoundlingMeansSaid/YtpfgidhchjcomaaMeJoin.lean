/- Sends of all kinds; cascades by their contracts. -/
import Derived.Test.YtpfgidhchjcomaaMeBlock
namespace Go.Proofs.Ytpfgidhchjcomaa
open Go.RowKit
set_option linter.unusedVariables false
theorem send_any (B : Nat) (p : Nat) (kn : List Kn) (slots : Nat) (fv gv : Value) (F G : List ByteArray) (d : Nat) (K : Kfn) (n : Nd) (kv nv : Value) (may : Bool) (w : World) (h : RsAt B w p kn slots fv gv F G) (hk : NodesX (· < B) d w kv n.kids) (hs : StrsX (· < B) w nv n.names) (ho : NdOk n) (hok : n.kind = 7 → n.kids ≠ []) (hkc : KC B p fv gv F G d K n.kids) (hkt : KC B p fv gv F G d K n.kids.tail) (hlen : ∀ r, K kn slots n.kids.tail = some r → r.1.length ≤ 300) :
    Calls Try.prog 48 #[.pointer (some ⟨p, 0, none⟩), ndV n kv nv, .bool may] w fun e w' => OnePost B w p kn fv gv F G d (sendM K kn slots n may) e w' := by
  by_cases hsm : (superB n && may) = true
  · rw [Bool.and_eq_true] at hsm
    obtain ⟨h1, rfl⟩ := hsm
    obtain ⟨k0, l, hkl⟩ : ∃ k0 l, n.kids = k0 :: l := by
      cases hkk : n.kids with
      | nil => unfold superB at h1; rw [hkk] at h1; simp at h1
      | cons k0 l => exact ⟨k0, l, rfl⟩
    cases d with
    | zero => have := hk.1; rw [hkl] at this; cases this
    | succ d => exact send_super B p kn slots fv gv F G d K n kv nv w h hk hs ho hok hkt h1 k0 l hkl (by rw [hkl] at hlen; exact hlen)
  · exact send_plain B p kn slots fv gv F G d K n kv nv may w h hk hs ho hok hkc (by simpa using hsm)
/-- a cascade, where every kid's own kids are resolved by K -/
theorem cascade_any (B : Nat) (p : Nat) (kn : List Kn) (slots : Nat) (fv gv : Value) (F G : List ByteArray) (d : Nat) (K : Kfn) (n : Nd) (kv nv : Value) (w : World) (h : RsAt B w p kn slots fv gv F G) (hk : NodesX (· < B) (d + 1) w kv n.kids) (hs : StrsX (· < B) w nv n.names) (hlen : n.kids.length ≤ 200)
    (H : ∀ n', n' ∈ n.kids → (n'.kind = 7 → n'.kids ≠ []) ∧ KC B p fv gv F G d K n'.kids ∧ KC B p fv gv F G d K n'.kids.tail ∧ ∀ s r, K kn s n'.kids.tail = some r → r.1.length ≤ 300) :
    Calls Try.prog 49 #[.pointer (some ⟨p, 0, none⟩), ndV n kv nv] w fun e w' => OnePost B w p kn fv gv F G (d + 1) (cascadeM K kn slots n) e w' :=
  cascade_step (fun s k => sendM K kn s k false) B p kn slots fv gv F G d n kv nv w h hk hs hlen fun n' kv' nv' s W hm hr hk' hs' ho' => by
    obtain ⟨a1, a2, a3, a4⟩ := H n' hm
    exact send_any B p kn s fv gv F G d K n' kv' nv' false W hr hk' hs' ho' a1 a2 a3 (a4 s)
/-- what resolving wants of a node -/
def okI (n : Nd) : Prop := n.kids.length ≤ 200 ∧ (n.kind = 7 → n.kids ≠ []) ∧ (n.kind = 8 → n.kids ≠ []) ∧ (n.kind = 9 → 0 ≤ n.num ∧ n.num ≤ n.names.length) ∧ (1 ≤ n.kind ∧ n.kind ≤ 4 → ∀ m, m ∈ n.kids → litB m = true)
def okL : Nat → List Nd → Prop
  | 0, _ => True
  | d + 1, l => l.length ≤ 200 ∧ ∀ n, n ∈ l → okI n ∧ okL d n.kids
theorem okL.tail {d : Nat} {l : List Nd} (h : okL d l) : okL d l.tail := by
  cases d with
  | zero => trivial
  | succ d => exact ⟨by rw [List.length_tail]; have := h.1; omega, fun n hn => h.2 n (List.mem_of_mem_tail hn)⟩
theorem resLs_some (f : Nat → Nd → Option (It × Nat)) : ∀ (l : List Nd) (s : Nat), (∀ n, n ∈ l → ∀ s, f s n ≠ none) → resLs f s l ≠ none
  | [], s, h => by intro e; cases e
  | n :: l, s, h => by
    unfold resLs
    cases hf : f s n with
    | none => exact absurd hf (h n (by simp) s)
    | some r =>
      simp only [ne_eq, Option.map_eq_none_iff]
      exact resLs_some f l _ fun m hm => h m (by simp [hm])
theorem litB_ways {m : Nd} (h : litB m = true) : (1 ≤ m.kind ∧ m.kind ≤ 4) ∨ (m.kind = 5 ∧ ∃ k, pseudoM m.name = some k) := by
  unfold litB at h
  simp only [Bool.or_eq_true, Bool.and_eq_true, decide_eq_true_eq, beq_iff_eq] at h
  rcases h with (((h | h) | h) | h) | ⟨h, h2⟩
  · left; omega
  · left; omega
  · left; omega
  · left; omega
  · right
    have e : m.name.data.toList = m.name.toList := (ByteArray.toList_eq _).symm
    refine ⟨h, ?_⟩
    unfold pseudoM
    rw [e]
    rcases h2 with (h2 | h2) | h2 <;> rw [h2] <;> exact ⟨_, rfl⟩
/-- literals are always resolved -/
theorem lits_some (F G : List ByteArray) : ∀ (d : Nat) (l : List Nd) (kn : List Kn) (s : Nat), okL d l → (∀ m, m ∈ l → litB m = true) → Kf F G d kn s l ≠ none
  | 0, l, kn, s, _, _ => by intro e; cases e
  | d + 1, l, kn, s, h, hl => resLs_some _ l s fun n hn s' => by
    obtain ⟨h1, h2⟩ := h.2 n hn
    intro e
    unfold itemM at e
    rcases litB_ways (hl n hn) with hw | ⟨hw, k, hp⟩
    · have := lits_some F G d n.kids kn s' h2 (h1.2.2.2.2 hw)
      rw [if_pos hw, Option.map_eq_none_iff] at e
      exact this e
    · rw [if_neg (by omega), if_pos hw, Option.map_eq_none_iff] at e
      unfold variableM at e
      rw [hp] at e
      cases e
theorem Kf_len (F G : List ByteArray) (d : Nat) (kn : List Kn) (s : Nat) (l : List Nd) (hl : okL d l) (r : List It × Nat) (h : Kf F G d kn s l = some r) : r.1.length ≤ 300 := by
  cases d with
  | zero => cases h; exact Nat.zero_le _
  | succ d =>
    have h1 := hl.1
    have := resLs_len _ _ _ _ h
    omega
end Go.Proofs.Ytpfgidhchjcomaa
