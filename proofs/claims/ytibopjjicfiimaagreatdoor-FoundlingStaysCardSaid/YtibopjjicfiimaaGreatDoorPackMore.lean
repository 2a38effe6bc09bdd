/- Sets of bits: how many are set in a word; how many are below; has it; another one like it; are they alike. -/
import Derived.Test.YtibopjjicfiimaaGreatDoorPackNext
import Derived.Test.YtibopjjicfiimaaGreatDoorPackCount
import Derived.Test.YtibopjjicfiimaaGreatDoorPackOpen
import Derived.Lib.MinMax
namespace Go.Proofs.YtibopjjicfiimaaGreatDoor
open Go.RowKit
theorem and_u64c (a : Nat) (m : Nat) (ha : a < 18446744073709551616) (hm : m < 18446744073709551616) (z : Int) (hz : z = (a : Int)) : bits BinOp.and IntKind.u64 z (m : Int) = ((a &&& m : Nat) : Int) := by
  subst hz; exact u64_and_nat a m ha hm
theorem and127 (v : Int) : bits BinOp.and IntKind.i64 v 127 = v % 128 := by
  show IntKind.i64.wrap ((BitVec.ofInt 64 v &&& BitVec.ofInt 64 ((127 : Nat) : Int)).toNat : Int) = _
  rw [BitVec.toNat_and, ofInt_u64 127 (by omega), show (BitVec.ofInt 64 v).toNat &&& 127 = (BitVec.ofInt 64 v).toNat % 128 from Nat.and_two_pow_sub_one_eq_mod _ 7, BitVec.toNat_ofInt]
  have hw : ∀ x : Int, IntKind.i64.wrap x = (x + 9223372036854775808) % 18446744073709551616 - 9223372036854775808 := fun x => by simp [IntKind.wrap, IntKind.bits, IntKind.signed]; try omega
  rw [hw]
  omega
theorem wrap_low (z : Nat) : wrap64 (z : Int) % 128 = ((z % 128 : Nat) : Int) := by
  unfold wrap64; omega
set_option maxRecDepth 100000 in
theorem ones_any (x : Nat) (hx : x < 18446744073709551616) (w : World) :
    Calls Tryz.prog 100 #[.int .u64 (x : Int)] w fun e w' => e = .returned (.int .i64 (cnt x.testBit 64 : Int)) ∧ w' = w := by
  obtain ⟨y, hy, hyl, y1, e1, hl1, y2, e2, hl2, y3, e3, hl3, he⟩ := swar_sum x
  rw [← he]
  clear he
  have a1 : bits BinOp.and IntKind.u64 ((x : Int) / 2) 6148914691236517205 = ((x / 2 &&& 6148914691236517205 : Nat) : Int) := and_u64c (x / 2) 6148914691236517205 (by omega) (by omega) _ (by omega)
  have a2 : bits BinOp.and IntKind.u64 (x : Int) 6148914691236517205 = ((x &&& 6148914691236517205 : Nat) : Int) := and_u64c x 6148914691236517205 hx (by omega) _ rfl
  have b1 : x / 2 &&& 6148914691236517205 ≤ 6148914691236517205 := Nat.and_le_right
  have b2 : x &&& 6148914691236517205 ≤ 6148914691236517205 := Nat.and_le_right
  unfold swar at hy
  rw [show step2 6148914691236517205 x = (x / 2 &&& 6148914691236517205) + (x &&& 6148914691236517205) from rfl] at hy
  generalize x / 2 &&& 6148914691236517205 = u1 at *
  generalize x &&& 6148914691236517205 = u2 at *
  have a3 : bits BinOp.and IntKind.u64 (((u1 : Int) + u2) / 4) 3689348814741910323 = (((u1 + u2) / 4 &&& 3689348814741910323 : Nat) : Int) := and_u64c ((u1 + u2) / 4) 3689348814741910323 (by omega) (by omega) _ (by omega)
  have a4 : bits BinOp.and IntKind.u64 ((u1 : Int) + u2) 3689348814741910323 = (((u1 + u2) &&& 3689348814741910323 : Nat) : Int) := and_u64c (u1 + u2) 3689348814741910323 (by omega) (by omega) _ (by omega)
  have b3 : (u1 + u2) / 4 &&& 3689348814741910323 ≤ 3689348814741910323 := Nat.and_le_right
  have b4 : (u1 + u2) &&& 3689348814741910323 ≤ 3689348814741910323 := Nat.and_le_right
  rw [show step4 3689348814741910323 (u1 + u2) = ((u1 + u2) / 4 &&& 3689348814741910323) + ((u1 + u2) &&& 3689348814741910323) from rfl] at hy
  generalize (u1 + u2) / 4 &&& 3689348814741910323 = u3 at *
  generalize (u1 + u2) &&& 3689348814741910323 = u4 at *
  have a5 : bits BinOp.and IntKind.u64 (((u3 : Int) + u4) / 16 + ((u3 : Int) + u4)) 1085102592571150095 = ((((u3 + u4) / 16 + (u3 + u4)) &&& 1085102592571150095 : Nat) : Int) := and_u64c ((u3 + u4) / 16 + (u3 + u4)) 1085102592571150095 (by omega) (by omega) _ (by omega)
  rw [show step8 1085102592571150095 (u3 + u4) = (((u3 + u4) / 16 + (u3 + u4)) &&& 1085102592571150095) from rfl] at hy
  rw [hy] at a5
  clear hy
  have HE := Lib.hid (show y3 = y + y / 256 + (y + y / 256) / 65536 + (y + y / 256 + (y + y / 256) / 65536) / 4294967296 by rw [e3, e2, e1])
  have l1 : y + y / 256 < 18446744073709551616 := by rw [← e1]; exact hl1
  have l2 : (y + y / 256) + (y + y / 256) / 65536 < 18446744073709551616 := by rw [← e1, ← e2]; exact hl2
  have l3 : ((y + y / 256) + (y + y / 256) / 65536) + ((y + y / 256) + (y + y / 256) / 65536) / 4294967296 < 18446744073709551616 := by rw [← e1, ← e2, ← e3]; exact hl3
  clear e1 e2 e3 hl1 hl2 
  go_enter Tryz.func100, Tryz.ntmps100
  go_wp2_with fail
  go_ret
  refine ⟨ret_int ?_, rfl⟩
  rw [and127]
  have h3 := HE.out
  have h4 : ((y3 : Nat) : Int) = (y : Int) + y / 256 + ((y : Int) + y / 256) / 65536 + ((y : Int) + y / 256 + ((y : Int) + y / 256) / 65536) / 4294967296 := by
    rw [h3]; simp only [Int.natCast_add, Int.natCast_ediv]; rfl
  rw [← h4]
  exact wrap_low y3
theorem bits_nums {w : World} {g n cap m : Nat} {ws : Nat → Nat} {f : Nat → Value} (h6 : (n + 63) / 64 ≤ cap) (h7 : cap ≤ maxLen) (h8 : w.rowIs g 30 m f) (h9 : (n + 63) / 64 ≤ m)
    (h10 : ∀ i, i < (n + 63) / 64 → f i = .int .u64 (ws i : Int) ∧ ws i < 18446744073709551616) : NumsAt w .u64 (.slice (some ⟨g, 0, none⟩) ((n + 63) / 64) cap) ((List.range ((n + 63) / 64)).map fun i => (ws i : Int)) := by
  refine ⟨_, cap, by rw [List.length_map, List.length_range], by rw [List.length_map, List.length_range]; exact h6, h7, (fun h => by cases h), fun i hi => ?_⟩
  rw [List.length_map, List.length_range] at hi
  refine ⟨g, 0, rfl, ?_, ?_⟩
  · rw [Nat.zero_add, h8.cell (by omega), (h10 i hi).1]; simp
  · have := (h10 i hi).2
    simp [Lit.wf, IntKind.min, IntKind.max, IntKind.signed, IntKind.bits]
    omega
/-- the number that is below i -/
def clipN (n : Nat) (i : Int) : Nat := (max 0 (min i n)).toNat
set_option maxRecDepth 100000 in
theorem below_any (B b n : Nat) (S : Nat → Bool) (i : Int) (w : World) (h : BitsAt w B b n S) :
    Calls Tryz.prog 77 #[.pointer (some ⟨b, 0, none⟩), .int .i64 i] w fun e w' => e = .returned (.int .i64 (cnt S (clipN n i) : Int)) ∧ w' = w := by
  obtain ⟨g, cap, m, ws, f, h1, h2, h3, h4, h5, h6, h7, h8, h9, h10, h11⟩ := h
  have hc0 : w.cell? ⟨b, 0, none⟩ = some (.int .i64 (n : Int)) := by simp [World.cell?, h5]
  have hc1 : w.cell? ⟨b, 1, none⟩ = some (.slice (some ⟨g, 0, none⟩) ((n + 63) / 64) cap) := by simp [World.cell?, h5]
  have HW := Lib.hid (fun j (hj : j < (n + 63) / 64) => show w.cell? ⟨g, j, none⟩ = some (.int .u64 (ws j : Int)) ∧ ws j < 18446744073709551616 ∧ ∀ q, q < 64 → (ws j).testBit q = S (64 * j + q) from
    ⟨by rw [h8.cell (by omega), (h10 j hj).1], (h10 j hj).2⟩)
  clear h5 h8 h10
  have hk : max 0 (min i (n : Int)) = ((clipN n i : Nat) : Int) := by unfold clipN; omega
  have hkn : clipN n i ≤ n := by unfold clipN; omega
  generalize clipN n i = k at *
  have a1 := and63 k (by omega)
  have hcl := cnt_le S k
  unfold maxLen at h7
  have hq : k / 64 ≤ (n + 63) / 64 := by omega
  go_enter Tryz.func77, Tryz.ntmps77
  go_wp2_with fail
  go_loopg [5, 24] (k / 64) (fun gg c j wr => ∃ q : Nat, gg = k / 64 - q ∧ q ≤ k / 64 ∧ j = .int .i64 q ∧ c = .int .i64 (cnt S (64 * q) : Int) ∧ wr = w)
  case atStart => exact ⟨0, rfl, by omega, rfl, rfl, rfl⟩
  case round =>
    obtain ⟨q, hgk, hq1, rfl, rfl, rfl⟩ := hrel
    have HK := Lib.hid hgk; clear hgk
    have hcq := cnt_le S (64 * q)
    by_cases hlt : q < k / 64
    · obtain ⟨hcw, hlw, hbw⟩ := HW.out q (by omega)
      have hs : cnt S (64 * (q + 1)) = cnt S (64 * q) + cnt (ws q).testBit 64 := by
        rw [show 64 * (q + 1) = 64 * q + 64 by omega, cnt_add]
        congr 1
        exact cnt_congr fun j hj => (hbw j hj).symm
      have h64 := cnt_le (ws q).testBit 64
      have O := Lib.hid (ones_any (ws q) hlw wr)
      have HS := Lib.hid hs; clear hs hbw
      generalize cnt (ws q).testBit 64 = c1 at *
      generalize cnt S (64 * q) = c0 at *
      go_wp2_with fail
      refine O.out.mono ?_
      rintro e w1 ⟨rfl, rfl⟩
      go_wp2_with fail
      go_roundg (k / 64 - (q + 1))
      case measure => rw [HK.out]; omega
      case rel => exact ⟨q + 1, rfl, by omega, by go_num, by rw [HS.out]; go_num, rfl⟩
    · obtain rfl : q = k / 64 := by omega
      by_cases hr : k % 64 = 0
      · have he : cnt S (64 * (k / 64)) = cnt S k := by rw [show 64 * (k / 64) = k by omega]
        rw [he]
        have hr' : (k : Int) % 64 = 0 := by omega
        go_wp2_with fail
        go_ret
        exact ⟨rfl, rfl⟩
      · obtain ⟨hcw, hlw, hbw⟩ := HW.out (k / 64) (by omega)
        have hs : cnt S k = cnt S (64 * (k / 64)) + cnt ((ws (k / 64) * 2 ^ (64 - k % 64)) % 18446744073709551616).testBit 64 := by
          conv => lhs; rw [show k = 64 * (k / 64) + k % 64 by omega]
          rw [cnt_add, cnt_high _ _ (by omega)]
          congr 1
          exact cnt_congr fun j hj => (hbw j (by omega)).symm
        have O := Lib.hid (ones_any ((ws (k / 64) * 2 ^ (64 - k % 64)) % 18446744073709551616) (Nat.mod_lt _ (by omega)) wr)
        have HS := Lib.hid hs; clear hs hbw
        have hr' : 0 < k % 64 := by omega
        have h64 := cnt_le ((ws (k / 64) * 2 ^ (64 - k % 64)) % 18446744073709551616).testBit 64
        have a2 : IntKind.u64.wrap ((ws (k / 64) : Int) * 2 ^ (64 - k % 64)) = ((ws (k / 64) * 2 ^ (64 - k % 64) % 18446744073709551616 : Nat) : Int) := by
          rw [IntKind.wrap_u64]; simp
        generalize ws (k / 64) * 2 ^ (64 - k % 64) % 18446744073709551616 = V at *
        generalize cnt V.testBit 64 = c1 at *
        generalize cnt S (64 * (k / 64)) = c0 at *
        go_wp2_with fail
        refine O.out.mono ?_
        rintro e w1 ⟨rfl, rfl⟩
        go_wp2_with fail
        go_ret
        exact ⟨by rw [HS.out]; go_num, rfl⟩
set_option maxRecDepth 100000 in
theorem has_any (B b n : Nat) (S : Nat → Bool) (i : Int) (w : World) (h : BitsAt w B b n S) :
    Calls Tryz.prog 76 #[.pointer (some ⟨b, 0, none⟩), .int .i64 i] w fun e w' => e = .returned (.bool (decide (0 ≤ i) && S i.toNat)) ∧ Below w.heap.size w w' := by
  obtain ⟨g, cap, m, ws, f, h1, h2, h3, h4, h5, h6, h7, h8, h9, h10, h11⟩ := h
  have hc0 : w.cell? ⟨b, 0, none⟩ = some (.int .i64 (n : Int)) := by simp [World.cell?, h5]
  by_cases hin : 0 ≤ i ∧ i < n
  · obtain ⟨k, rfl⟩ := Int.eq_ofNat_of_zero_le hin.1
    have hk : k < n := by omega
    have hc1 : w.cell? ⟨b, 1, none⟩ = some (.slice (some ⟨g, 0, none⟩) ((n + 63) / 64) cap) := by simp [World.cell?, h5]
    have hq : k / 64 < (n + 63) / 64 := by omega
    obtain ⟨e1, e2, e3⟩ := h10 (k / 64) hq
    have hcw : w.cell? ⟨g, k / 64, none⟩ = some (.int .u64 (ws (k / 64) : Int)) := by rw [h8.cell (by omega), e1]
    have hbt : (ws (k / 64)).testBit (k % 64) = S k := by rw [e3 (k % 64) (by omega), Nat.div_add_mod]
    have hp : 2 ^ (k % 64) < 18446744073709551616 := Nat.lt_of_lt_of_le (Nat.pow_lt_pow_right (by omega) (show k % 64 < 64 by omega)) (by decide)
    have a1 := u64_and_nat (ws (k / 64)) (2 ^ (k % 64)) e2 hp
    have a3 : (((ws (k / 64) &&& 2 ^ (k % 64) : Nat) : Int) != 0) = S k := by
      rw [← hbt, ← and_bit]
      generalize ws (k / 64) &&& 2 ^ (k % 64) = z
      cases z with
      | zero => rfl
      | succ z => simp; omega
    have P := Lib.hid (place_yes b n k hk h4 w hc0)
    have he : (decide (0 ≤ (k : Int)) && S (k : Int).toNat) = S k := by simp
    rw [he]
    clear hbt e1 e3 h5 h8 h10 h11 he
    generalize 2 ^ (k % 64) = bit at *
    generalize ws (k / 64) = W at *
    go_enter Tryz.func76, Tryz.ntmps76
    go_wp2_with fail
    refine P.out.mono ?_
    rintro e w1 ⟨rfl, hg1, hh⟩
    have hx : ∀ p, w1.cell? p = w.cell? p := fun p => by simp [World.cell?, hh]
    have hc1' := (hx ⟨b, 1, none⟩).trans hc1
    have hcw' := (hx ⟨g, k / 64, none⟩).trans hcw
    clear hx hc0 hc1 hcw
    have HG := Lib.hid hg1
    clear hg1
    go_wp2_with fail
    all_goals go_ret
    all_goals exact ⟨rfl, HG.out⟩
  · have P := Lib.hid (place_no b n i (by omega) w hc0)
    have he : (decide (0 ≤ i) && S i.toNat) = false := by
      by_cases h0 : 0 ≤ i
      · rw [h11 _ (by omega)]; simp
      · simp [h0]
    rw [he]
    clear h5 h8 h10 h11 he
    go_enter Tryz.func76, Tryz.ntmps76
    go_wp2_with fail
    refine P.out.mono ?_
    rintro e w1 ⟨rfl, rfl⟩
    go_wp2_with fail
    go_ret
    exact ⟨rfl, Below.refl _ _⟩
end Go.Proofs.YtibopjjicfiimaaGreatDoor
