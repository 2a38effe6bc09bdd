/- Every item, every list of nodes is resolved as the model says. -/
import Derived.Test.YtpfgidhchjcomaaMeJoin
import Derived.Test.YtpfgidhchjcomaaMeAssign
namespace Go.Proofs.Ytpfgidhchjcomaa
open Go.RowKit
set_option linter.unusedVariables false
theorem item_any (B : Nat) (p : Nat) (kn : List Kn) (slots : Nat) (fv gv : Value) (F G : List ByteArray) (d : Nat) (n : Nd) (kv nv : Value) (w : World) (h : RsAt B w p kn slots fv gv F G) (hk : NodesX (· < B) d w kv n.kids) (hs : StrsX (· < B) w nv n.names) (ho : NdOk n) (hi : okI n) (hl : okL d n.kids)
    (hK : ∀ l, okL d l → KC B p fv gv F G d (Kf F G d) l) (hKp : ∀ d', d = d' + 1 → ∀ l, okL d' l → KC B p fv gv F G d' (Kf F G d') l) :
    Calls Try.prog 28 #[.pointer (some ⟨p, 0, none⟩), ndV n kv nv] w fun e w' => OnePost B w p kn fv gv F G d (itemM F G (lev F G d).1 (lev F G d).2 kn slots n) e w' := by
  obtain ⟨h1, h2, h3, h4, h5⟩ := hi
  have KX := hK n.kids hl
  have KT := hK n.kids.tail hl.tail
  unfold itemM
  by_cases k14 : 1 ≤ n.kind ∧ n.kind ≤ 4
  · rw [if_pos k14]
    exact item_lit B p kn slots fv gv F G d (Kf F G d) n kv nv w h hk hs ho KX (lits_some F G d n.kids kn slots hl (h5 k14)) (by omega)
  rw [if_neg k14]
  by_cases k5 : n.kind = 5
  · rw [if_pos k5]
    exact item_var B p kn slots fv gv F G d (Kf F G d) n kv nv w h hk hs ho KX k5
  rw [if_neg k5]
  by_cases k6 : n.kind = 6
  · rw [if_pos k6]
    exact item_sub B p kn slots fv gv F G d n kv nv w h hk hs ho _ (.inl ⟨k6, fun W hW => assign_any B p kn slots fv gv F G d (Kf F G d) n kv nv W (h.later hW) (hk.later hW) (hs.later hW) ho KX⟩)
  rw [if_neg k6]
  by_cases k7 : n.kind = 7
  · rw [if_pos k7]
    exact item_sub B p kn slots fv gv F G d n kv nv w h hk hs ho _ (.inr (.inl ⟨k7, fun W hW => send_any B p kn slots fv gv F G d (Kf F G d) n kv nv true W (h.later hW) (hk.later hW) (hs.later hW) ho h2 KX KT fun r hr => Kf_len F G d kn slots _ hl.tail r hr⟩))
  rw [if_neg k7]
  by_cases k8 : n.kind = 8
  · rw [if_pos k8]
    refine item_sub B p kn slots fv gv F G d n kv nv w h hk hs ho _ (.inr (.inr (.inl ⟨k8, fun W hW => ?_⟩)))
    cases d with
    | zero => exact absurd hk.1 (h3 k8)
    | succ d =>
      exact cascade_any B p kn slots fv gv F G d (Kf F G d) n kv nv W (h.later hW) (hk.later hW) (hs.later hW) h1 fun n' hn' => by
        obtain ⟨a1, a2⟩ := hl.2 n' hn'
        exact ⟨a1.2.1, hKp d rfl _ a2, hKp d rfl _ a2.tail, fun s r hr => Kf_len F G d kn s _ a2.tail r hr⟩
  rw [if_neg k8]
  by_cases k9 : n.kind = 9
  · rw [if_pos k9]
    exact item_sub B p kn slots fv gv F G d n kv nv w h hk hs ho _ (.inr (.inr (.inr ⟨k9, fun W hW => block_any B p kn slots fv gv F G d (Kf F G d) n kv nv W (h.later hW) (hk.later hW) (hs.later hW) ho KX (h4 k9).1 (h4 k9).2⟩)))
  rw [if_neg k9]
  by_cases k10 : n.kind = 10
  · rw [if_pos k10]
    exact item_ret B p kn slots fv gv F G d (Kf F G d) n kv nv w h hk hs ho KX k10
  rw [if_neg k10]
  exact item_none B p kn slots fv gv F G d (Kf F G d) n kv nv w h hk hs ho KX (by omega)
theorem kc_zero (B p : Nat) (fv gv : Value) (F G : List ByteArray) (l : List Nd) : KC B p fv gv F G 0 (Kf F G 0) l := by
  intro v kn s W h hk
  obtain rfl : l = [] := hk.1
  refine (all_step (fun _ _ => none) 0 B p kn s fv gv F G v [] W h hk.succ (by simp) (fun n _ _ _ _ hn => by cases hn)).mono ?_
  rintro e w' ⟨v', he, hi, hr, hkt, hb⟩
  obtain ⟨a, c, hv, h1, h2, h3⟩ := hi.shape
  exact ⟨v', he, ⟨rfl, a, c, hv, h2, h3⟩, hr, hkt, hb⟩
theorem kc_any (B p : Nat) (fv gv : Value) (F G : List ByteArray) : ∀ d, (∀ l, okL d l → KC B p fv gv F G d (Kf F G d) l) ∧ ∀ d', d = d' + 1 → ∀ l, okL d' l → KC B p fv gv F G d' (Kf F G d') l
  | 0 => ⟨fun l _ => kc_zero B p fv gv F G l, fun d' e => by omega⟩
  | d + 1 => by
    obtain ⟨h1, h2⟩ := kc_any B p fv gv F G d
    refine ⟨fun l hl v kn s W h hk => ?_, fun d' e => (show d = d' by omega) ▸ h1⟩
    exact all_step (fun s n => itemM F G (lev F G d).1 (lev F G d).2 kn s n) d B p kn s fv gv F G v l W h hk hl.1 fun n kv nv s' W' hn hr hk' hs' ho' =>
      item_any B p kn s' fv gv F G d n kv nv W' hr hk' hs' ho' (hl.2 n hn).1 (hl.2 n hn).2 h1 h2
end Go.Proofs.Ytpfgidhchjcomaa
