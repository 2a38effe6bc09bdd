/- Sets of bits: how many there may be; the next one. -/
import Derived.Test.YtaillinlbbhdkaaDoorPackSet
namespace Go.Proofs.YtaillinlbbhdkaaDoor
open Go.RowKit
theorem BitsAt.later {w w' : World} {B b n : Nat} {S : Nat → Bool} (h : BitsAt w B b n S) (hb : Below w.heap.size w w') : BitsAt w' B b n S := by
  obtain ⟨g, cap, m, ws, f, h1, h2, h3, h4, h5, h6, h7, h8, h9⟩ := h
  have hl : b < w.heap.size := (Array.getElem?_eq_some_iff.1 h5).1
  exact ⟨g, cap, m, ws, f, h1, h2, h3, h4, by rw [hb.block b hl]; exact h5, h6, h7, h8.of_block (hb.block g h8.lt), h9⟩
theorem BitsAt.mono {w : World} {B C b n : Nat} {S : Nat → Bool} (h : BitsAt w B b n S) (hc : C ≤ B) : BitsAt w C b n S := by
  obtain ⟨g, cap, m, ws, f, h1, h2, h3⟩ := h
  exact ⟨g, cap, m, ws, f, by omega, by omega, h3⟩
set_option maxRecDepth 100000 in
theorem next_any (B b n : Nat) (S : Nat → Bool) (i : Int) (w : World) (h : BitsAt w B b n S) (hT : TabAt 0 Lib.deBruijn64tab w) :
    Calls Tryd.prog 52 #[.pointer (some ⟨b, 0, none⟩), .int .i64 i] w fun e w' => ∃ r, e = .returned (.int .i64 r) ∧ IsNext n S i r ∧ w' = w := by
  obtain ⟨g, cap, m, ws, f, h1, h2, h3, h4, h5, h6, h7, h8, h9, h10, h11⟩ := h
  have hc0 : w.cell? ⟨b, 0, none⟩ = some (.int .i64 (n : Int)) := by simp [World.cell?, h5]
  have hc1 : w.cell? ⟨b, 1, none⟩ = some (.slice (some ⟨g, 0, none⟩) ((n + 63) / 64) cap) := by simp [World.cell?, h5]
  have HW := Lib.hid (fun j (hj : j < (n + 63) / 64) => show w.cell? ⟨g, j, none⟩ = some (.int .u64 (ws j : Int)) ∧ ws j < 18446744073709551616 ∧ ∀ q, q < 64 → (ws j).testBit q = S (64 * j + q) from
    ⟨by rw [h8.cell (by omega), (h10 j hj).1], (h10 j hj).2⟩)
  clear h5 h8 h10
  obtain ⟨k, hk⟩ : ∃ k : Nat, (k : Int) = max i 0 := ⟨(max i 0).toNat, by omega⟩
  have HI := Lib.hid (show ∀ r, IsNext n S (k : Int) r → IsNext n S i r from fun r hr => by
    rcases hr with ⟨e, hr⟩ | ⟨q, e, r1, r2, r3, r4⟩
    · exact Or.inl ⟨e, fun j hj => hr j (by omega)⟩
    · exact Or.inr ⟨q, e, r1, by omega, r3, fun j hj => r4 j (by omega)⟩)
  unfold maxLen at h7
  by_cases hkn : n ≤ k
  · have hN := Lib.hid (HI.out (-1) (Or.inl ⟨rfl, fun j h1 h2 => by omega⟩))
    have H11 := Lib.hid h11; clear h11
    go_enter Tryd.func52, Tryd.ntmps52
    go_wp2_with fail
    all_goals (go_ret; exact ⟨-1, rfl, hN.out, rfl⟩)
  · obtain ⟨hcw, hlw, hbw⟩ := HW.out (k / 64) (by omega)
    have hW0 := Lib.hid (word_first (S := S) (i := k) hbw)
    have H11 := Lib.hid h11; clear h11 hbw
    have a1 := and63 k (by omega)
    by_cases hneg : i < 0
    · obtain rfl : k = 0 := by omega
      have a0 : bits BinOp.and IntKind.i64 0 63 = 0 := by kernel_rfl
      clear hk a1
      go_enter Tryd.func52, Tryd.ntmps52
      go_wp2_with fail
      go_loopg [5, 6] ((n + 63) / 64 - 0 / 64) (fun g a v wr => ∃ (aa V : Nat), g = (n + 63) / 64 - aa ∧ aa < (n + 63) / 64 ∧ 0 < 64 * (aa + 1) ∧ a = .int .i64 aa ∧ v = .int .u64 (V : Int) ∧ WordFrom S 0 aa V ∧ V < 18446744073709551616 ∧ (∀ j, 0 ≤ j → j < 64 * aa → S j = false) ∧ wr = w)
      case atStart => exact ⟨0 / 64, (ws (0 / 64) / 2 ^ (0 % 64) * 2 ^ (0 % 64)) % 18446744073709551616, by omega, by omega, by omega, by rfl, by first | rfl | (congr 1; rw [IntKind.wrap_u64]; simp) | (simp [IntKind.wrap_u64]), hW0.out, Nat.mod_lt _ (by omega), fun j h1 h2 => by omega, rfl⟩
      case round =>
        obtain ⟨aa, V, hgk, haa, hka, rfl, rfl, hwf, hV, hz, rfl⟩ := hrel
        have HK := Lib.hid hgk; have HF := Lib.hid hwf; have HZ := Lib.hid hz
        clear hgk hwf hz
        have TZ := Lib.hid (fun (hx : V ≠ 0) => Tryd.tz64 V hV wr (fun _ => hT))
        by_cases hv0 : V = 0
        · subst hv0
          have HZ' := Lib.hid (next_zero HZ.out HF.out)
          by_cases hend : aa + 1 = (n + 63) / 64
          · have hN := Lib.hid (HI.out (-1) (next_none (a := aa + 1) HZ'.out (by omega)))
            have hend' : ((aa : Int) + 1 == ((n + 63) / 64 : Nat)) = true := by rw [beq_iff_eq]; omega
            go_wp2_with fail
            go_ret
            exact ⟨-1, rfl, hN.out, rfl⟩
          · obtain ⟨hcn, hln, hbn⟩ := HW.out (aa + 1) (by omega)
            have HB := Lib.hid (word_next (S := S) (i := 0) (a := aa + 1) (by omega) hbn)
            clear hbn
            have hend' : ((aa : Int) + 1 == ((n + 63) / 64 : Nat)) = false := by rw [beq_eq_false_iff_ne]; omega
            go_wp2_with fail
            go_roundg ((n + 63) / 64 - (aa + 1))
            case measure => rw [HK.out]; omega
            case rel => exact ⟨aa + 1, ws (aa + 1), rfl, by omega, by omega, by go_num, rfl, HB.out, hln, HZ'.out, rfl⟩
        · have hN := Lib.hid (HI.out _ (next_found HZ.out HF.out hv0 hV H11.out))
          have hct := (ctz_bits V hv0 hV).1
          have T := Lib.hid (TZ.out hv0)
          have hv' : ((V : Int) == 0) = false := by rw [beq_eq_false_iff_ne]; omega
          generalize Lib.ctz 64 V = c at *
          go_wp2_with fail
          refine T.out.mono ?_
          rintro e w1 ⟨rfl, rfl⟩
          go_wp2_with fail
          go_ret
          refine ⟨_, rfl, ?_, rfl⟩
          have := hN.out
          rw [show ((64 * aa + c : Nat) : Int) = (aa : Int) * 64 + c by omega] at this
          exact this
    · obtain rfl : i = k := by omega
      clear hk hneg
      go_enter Tryd.func52, Tryd.ntmps52
      go_wp2_with fail
      go_loopg [5, 6] ((n + 63) / 64 - k / 64) (fun g a v wr => ∃ (aa V : Nat), g = (n + 63) / 64 - aa ∧ aa < (n + 63) / 64 ∧ k < 64 * (aa + 1) ∧ a = .int .i64 aa ∧ v = .int .u64 (V : Int) ∧ WordFrom S k aa V ∧ V < 18446744073709551616 ∧ (∀ j, k ≤ j → j < 64 * aa → S j = false) ∧ wr = w)
      case atStart => exact ⟨k / 64, (ws (k / 64) / 2 ^ (k % 64) * 2 ^ (k % 64)) % 18446744073709551616, by omega, by omega, by omega, by first | rfl | go_num, by first | rfl | (congr 1; rw [IntKind.wrap_u64]; simp) | (congr 1; rw [IntKind.wrap_u64]), hW0.out, Nat.mod_lt _ (by omega), fun j h1 h2 => by omega, rfl⟩
      case round =>
        obtain ⟨aa, V, hgk, haa, hka, rfl, rfl, hwf, hV, hz, rfl⟩ := hrel
        have HK := Lib.hid hgk; have HF := Lib.hid hwf; have HZ := Lib.hid hz
        clear hgk hwf hz
        have TZ := Lib.hid (fun (hx : V ≠ 0) => Tryd.tz64 V hV wr (fun _ => hT))
        by_cases hv0 : V = 0
        · subst hv0
          have HZ' := Lib.hid (next_zero HZ.out HF.out)
          by_cases hend : aa + 1 = (n + 63) / 64
          · have hN := Lib.hid (HI.out (-1) (next_none (a := aa + 1) HZ'.out (by omega)))
            have hend' : ((aa : Int) + 1 == ((n + 63) / 64 : Nat)) = true := by rw [beq_iff_eq]; omega
            go_wp2_with fail
            go_ret
            exact ⟨-1, rfl, hN.out, rfl⟩
          · obtain ⟨hcn, hln, hbn⟩ := HW.out (aa + 1) (by omega)
            have HB := Lib.hid (word_next (S := S) (i := k) (a := aa + 1) (by omega) hbn)
            clear hbn
            have hend' : ((aa : Int) + 1 == ((n + 63) / 64 : Nat)) = false := by rw [beq_eq_false_iff_ne]; omega
            go_wp2_with fail
            go_roundg ((n + 63) / 64 - (aa + 1))
            case measure => rw [HK.out]; omega
            case rel => exact ⟨aa + 1, ws (aa + 1), rfl, by omega, by omega, by go_num, rfl, HB.out, hln, HZ'.out, rfl⟩
        · have hN := Lib.hid (HI.out _ (next_found HZ.out HF.out hv0 hV H11.out))
          have hct := (ctz_bits V hv0 hV).1
          have T := Lib.hid (TZ.out hv0)
          have hv' : ((V : Int) == 0) = false := by rw [beq_eq_false_iff_ne]; omega
          generalize Lib.ctz 64 V = c at *
          go_wp2_with fail
          refine T.out.mono ?_
          rintro e w1 ⟨rfl, rfl⟩
          go_wp2_with fail
          go_ret
          refine ⟨_, rfl, ?_, rfl⟩
          have := hN.out
          rw [show ((64 * aa + c : Nat) : Int) = (aa : Int) * 64 + c by omega] at this
          exact this
end Go.Proofs.YtaillinlbbhdkaaDoor
