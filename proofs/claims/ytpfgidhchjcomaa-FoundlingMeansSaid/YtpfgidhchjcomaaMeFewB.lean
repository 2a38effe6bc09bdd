/- Few, Cut and Own of a method. -/
import Derived.Test.YtpfgidhchjcomaaMeFew
namespace Go.Proofs.Ytpfgidhchjcomaa
open Go.RowKit
set_option linter.unusedVariables false
set_option maxRecDepth 100000 in
set_option maxHeartbeats 4000000 in
theorem few_zero (p : Nat) (x : Nat → Prop) (D : Nat) (v : Value) (l : List Nd) (n : Nat) (w : World) (h : NodesX x (D + 1) w v l) (hp : w.cell? ⟨p, 0, none⟩ = some (.int .i64 (n : Int))) (hf : w.frozen? ⟨p, 0, none⟩ = false) :
    Calls Try.prog 14 #[v, .pointer (some ⟨p, 0, none⟩), .int .i64 0] w fun e w' => FewPost p x 0 w ([], n) e w' := by
  obtain ⟨va, c, rfl, h1, h2, -⟩ := h.shape
  have hmax : l.length ≤ 9223372036854775807 := Nat.le_trans h1 h2
  have HS := Lib.hid h
  have hlp := lt_of_cell hp
  have HP := Lib.hid (show SzP p w w (n : Int) from ⟨Ex.refl _ _, hp, hf⟩)
  clear h
  go_enter Try.func14, Try.ntmps14
  go_wp2_with fail
  go_loopg [7, 12] l.length (fun gg s7 s12 wr => gg = l.length ∧ s7 = .slice none 0 0 ∧ s12 = .int .i64 0 ∧ wr = w)
  case atStart => exact ⟨rfl, rfl, rfl, rfl⟩
  case round =>
    obtain ⟨hg, rfl, rfl, rfl⟩ := hrel
    by_cases hlt' : 0 < l.length
    · have hl' := List.getElem?_eq_getElem hlt'
      obtain ⟨b, o, kv, nv, rfl, c0, c1, c2, c3, c4, c5, hk, hs, ho⟩ := HS.out.at 0 _ hl'
      obtain ⟨ka, kc, rfl, -⟩ := id hk.shape
      obtain ⟨na, nc, rfl, -⟩ := id hs
      clear hl' hk hs ho
      simp only [Nat.zero_mul, Nat.add_zero] at c0 c1 c2 c3 c4 c5
      generalize l[0] = s at *
      have HK := Lib.hid (show SzP p wr (wr.alloc (.cells #[.int .i64 s.kind, .string s.name, .int .i64 s.num, .slice ka s.kids.length kc, .slice na s.names.length nc, .int .i64 s.at_] 43)) (n : Int) from SzP.keep ((Below.refl _ _).alloc (Nat.le_refl _) _) hp hf)
      cases n with
      | zero =>
        go_wp2_with fail
        go_ret
        exact ⟨_, rfl, ⟨rfl, _, _, rfl, by unfold maxLen; omega, fun _ => rfl⟩, HK.out⟩
      | succ n =>
        have hp' : wr.cell? ⟨p, 0, none⟩ = some (.int .i64 ((n : Int) + 1)) := by rw [hp]; simp
        clear hp
        have hm0 : decide ((n : Int) + 1 ≤ 0) = false := decide_eq_false (by omega)
        go_wp2_with fail
        go_ret
        exact ⟨_, rfl, ⟨rfl, _, _, rfl, by unfold maxLen; omega, fun _ => rfl⟩, HK.out⟩
    · have : l = [] := List.length_eq_zero_iff.1 (by omega)
      subst this
      go_wp2_with fail
      go_ret
      exact ⟨_, rfl, ⟨rfl, _, _, rfl, by unfold maxLen; omega, fun _ => rfl⟩, HP.out⟩
theorem few_any (p : Nat) (x : Nat → Prop) (hx : ¬ x p) : ∀ (d D : Nat) (v : Value) (l : List Nd) (n : Nat) (w : World), (∀ b, x b → b < w.heap.size) → n ≤ 200 → d ≤ 60 → NodesX x D w v l → w.cell? ⟨p, 0, none⟩ = some (.int .i64 (n : Int)) → w.frozen? ⟨p, 0, none⟩ = false →
    Calls Try.prog 14 #[v, .pointer (some ⟨p, 0, none⟩), .int .i64 (d : Int)] w fun e w' => FewPost p x d w (few d n l) e w'
  | 0, D, v, l, n, w, hxw, hn, hd, h, hp, hf => few_zero p x D v l n w h.succ hp hf
  | d + 1, D, v, l, n, w, hxw, hn, hd, h, hp, hf => by
    have := few_step p x hx d D v l n w hxw hn (by omega) h.succ hp hf (few d) (few_le d) fun k kv' W m hk hm hW hkk hpp hff => few_any p x hx d D kv' k.kids m W (fun b hb => Nat.lt_of_lt_of_le (hxw b hb) hW) hm (by omega) hkk hpp hff
    rw [show (((d + 1 : Nat) : Int)) = (d : Int) + 1 by omega]
    exact this
end Go.Proofs.Ytpfgidhchjcomaa
