/- Sets of bits: has it? (for seats that lay no more of them) -/
import Derived.Test.YtibopjjicfiimaaGreatDoorPackNext
import Derived.Test.YtibopjjicfiimaaGreatDoorPackOpen
namespace Go.Proofs.YtibopjjicfiimaaGreatDoor
open Go.RowKit
set_option maxRecDepth 100000 in
theorem has_any (B b n : Nat) (S : Nat → Bool) (i : Int) (w : World) (h : BitsAt w B b n S) :
    Calls Tryz.prog 76 #[.pointer (some ⟨b, 0, none⟩), .int .i64 i] w fun e w' => e = .returned (.bool (decide (0 ≤ i) && S i.toNat)) ∧ Below w.heap.size w w' := by
  obtain ⟨g, cap, m, ws, f, h1, h2, h3, h4, h5, h6, h7, h8, h9, h10, h11⟩ := h
  have hc0 : w.cell? ⟨b, 0, none⟩ = some (.int .i64 (n : Int)) := by simp [World.cell?, h5]
  by_cases hin : 0 ≤ i ∧ i < n
  · obtain ⟨k, rfl⟩ := Int.eq_ofNat_of_zero_le hin.1
    have hk : k < n := by omega
    have hc1 : w.cell? ⟨b, 1, none⟩ = some (.slice (some ⟨g, 0, none⟩) ((n + 63) / 64) cap) := by simp [World.cell?, h5]
    have hq : k / 64 < (n + 63) / 64 := by omega
    obtain ⟨e1, e2, e3⟩ := h10 (k / 64) hq
    have hcw : w.cell? ⟨g, k / 64, none⟩ = some (.int .u64 (ws (k / 64) : Int)) := by rw [h8.cell (by omega), e1]
    have hbt : (ws (k / 64)).testBit (k % 64) = S k := by rw [e3 (k % 64) (by omega), Nat.div_add_mod]
    have hp : 2 ^ (k % 64) < 18446744073709551616 := Nat.lt_of_lt_of_le (Nat.pow_lt_pow_right (by omega) (show k % 64 < 64 by omega)) (by decide)
    have a1 := u64_and_nat (ws (k / 64)) (2 ^ (k % 64)) e2 hp
    have a3 : (((ws (k / 64) &&& 2 ^ (k % 64) : Nat) : Int) != 0) = S k := by
      rw [← hbt, ← and_bit]
      generalize ws (k / 64) &&& 2 ^ (k % 64) = z
      cases z with
      | zero => rfl
      | succ z => simp; omega
    have P := Lib.hid (place_yes b n k hk h4 w hc0)
    have he : (decide (0 ≤ (k : Int)) && S (k : Int).toNat) = S k := by simp
    rw [he]
    clear hbt e1 e3 h5 h8 h10 h11 he
    generalize 2 ^ (k % 64) = bit at *
    generalize ws (k / 64) = W at *
    go_enter Tryz.func76, Tryz.ntmps76
    go_wp2_with fail
    refine P.out.mono ?_
    rintro e w1 ⟨rfl, hg1, hh⟩
    have hx : ∀ p, w1.cell? p = w.cell? p := fun p => by simp [World.cell?, hh]
    have hc1' := (hx ⟨b, 1, none⟩).trans hc1
    have hcw' := (hx ⟨g, k / 64, none⟩).trans hcw
    clear hx hc0 hc1 hcw
    have HG := Lib.hid hg1
    clear hg1
    go_wp2_with fail
    all_goals go_ret
    all_goals exact ⟨rfl, HG.out⟩
  · have P := Lib.hid (place_no b n i (by omega) w hc0)
    have he : (decide (0 ≤ i) && S i.toNat) = false := by
      by_cases h0 : 0 ≤ i
      · rw [h11 _ (by omega)]; simp
      · simp [h0]
    rw [he]
    clear h5 h8 h10 h11 he
    go_enter Tryz.func76, Tryz.ntmps76
    go_wp2_with fail
    refine P.out.mono ?_
    rintro e w1 ⟨rfl, rfl⟩
    go_wp2_with fail
    go_ret
    exact ⟨rfl, Below.refl _ _⟩
end Go.Proofs.YtibopjjicfiimaaGreatDoor
