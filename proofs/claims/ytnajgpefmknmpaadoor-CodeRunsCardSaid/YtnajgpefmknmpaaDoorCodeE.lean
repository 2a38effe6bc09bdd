/- A number as bytes: the document's put. -/
import Derived.Test.YtnajgpefmknmpaaDoorCodeD
namespace Go.Proofs.YtnajgpefmknmpaaDoor
open Go.RowKit
set_option linter.unusedVariables false
theorem div_pow_succ (y : Int) (k : Nat) : y / 256 ^ (k + 1) = y / 256 ^ k / 256 := by
  rw [Int.pow_succ, Int.ediv_ediv_of_nonneg (by exact Int.pow_nonneg (by decide))]
theorem div_pow_nonneg {y : Int} (h : 0 ≤ y) (k : Nat) : 0 ≤ y / 256 ^ k := Int.ediv_nonneg h (Int.pow_nonneg (by decide))
theorem div_pow_le {y : Int} (h : 0 ≤ y) (k : Nat) : y / 256 ^ k ≤ y := Int.ediv_le_self _ h
theorem byteZ_mod (x : Int) (k : Nat) : ((byteZ x k).toNat : Int) = x / 256 ^ k % 256 := by
  rw [byteZ_nat]
  have : 0 ≤ (x / (256 : Int) ^ k) % 256 := Int.emod_nonneg _ (by decide)
  omega
theorem putZ_turn1 (x : Int) : putZ ((x + 256) % 256) 1 = putZ x 1 := by
  rw [put1, put1]
  congr 1
  apply UInt8.toNat_inj.1
  rw [byteZ_nat, byteZ_nat]
  simp only [Int.pow_zero, Int.ediv_one]
  omega
theorem putZ_turn2 (x : Int) : putZ ((x + 65536) % 65536) 2 = putZ x 2 := by
  rw [put2', put2']
  have h0 : byteZ ((x + 65536) % 65536) 0 = byteZ x 0 := by
    apply UInt8.toNat_inj.1
    rw [byteZ_nat, byteZ_nat]
    simp only [Int.pow_zero, Int.ediv_one]
    omega
  have h1 : byteZ ((x + 65536) % 65536) 1 = byteZ x 1 := by
    apply UInt8.toNat_inj.1
    rw [byteZ_nat, byteZ_nat]
    rw [show ((256 : Int) ^ 1) = 256 from rfl]
    omega
  rw [h0, h1]
set_option maxRecDepth 100000 in
set_option maxHeartbeats 2000000 in
/-- no sign, not below 0 -/
theorem rput_plain (v : Value) (l : List UInt8) (x : Int) (n : Nat) (w : World) (B : Nat) (hn : n ≤ 2) (hB : B ≤ w.heap.size) (h : OwnsB w B v l) (hl : l.length ≤ 100000) (hx : 0 ≤ x) (hx2 : x < 9223372036854775808) :
    Calls Tryd.prog 21 #[v, .int .i64 x, .int .i64 (n : Int)] w fun e w' => ∃ v', e = .returned (.tuple #[v', .bool (x / 256 ^ n == 0)]) ∧ OwnsB w' B v' (l ++ putZ x n) ∧ Kp B w w' := by
  obtain ⟨i0, hi, hz0, hz1, hz2⟩ := info_parts byteInfo
  have H := Lib.hid h
  clear h
  go_enter Tryd.func21, Tryd.ntmps21
  go_wp2_with fail
  go_loopg [0, 1, 9] n (fun g o y i wr => ∃ k : Nat, g = n - k ∧ k ≤ n ∧ i = .int .i64 k ∧ y = .int .i64 (x / 256 ^ k) ∧ OwnsB wr B o (l ++ putZ x k) ∧ Kp B w wr)
  case atStart => exact ⟨0, rfl, by omega, rfl, by simp, by rw [show l ++ putZ x 0 = l from List.append_nil l]; exact H.out, Kp.refl _ _⟩
  case round =>
    obtain ⟨k, hgk, hk, rfl, rfl, hb, hg⟩ := hrel
    have HBk := Lib.hid hb; have HGk := Lib.hid hg; have HK := Lib.hid hgk; clear hb hg hgk
    by_cases hlt : k < n
    · have HL := Lib.hid (show (l ++ putZ x k).length = l.length + k by rw [List.length_append, putZ_length])
      have HS := Lib.hid (show putZ x (k + 1) = putZ x k ++ [byteZ x k] from rfl)
      have HM := Lib.hid (byteZ_mod x k)
      have HD := Lib.hid (div_pow_succ x k)
      have hwl := HGk.out.1.size
      have hy0 : 0 ≤ x / 256 ^ k := div_pow_nonneg hx k
      have hy1 : x / 256 ^ k ≤ x := div_pow_le hx k
      generalize x / 256 ^ k = y at *
      go_wp2_with (at_builtin; refine wpList_append_own _ rfl _ _ 29 rfl B 5 i0 (.int .u8 0) 1 1 Tryd.underlying29 hi hz0 hz1 hz2 rfl (by decide) _ _ _ rfl (HBk.out.alloc _) ⟨wr.heap.size, 0, none⟩ 1 1 [.int .u8 (y % 256)] rfl rfl ?c1 ?c2 ?c3 ?c4 ?c5 ?_)
      case c1 =>
        intro j u hj
        match j, hj with
        | 0, hj => simp at hj; subst hj; simp [Addr.add]
      case c2 => intro u hu; simp at hu; subst hu; rfl
      case c3 => rw [HL.out]; unfold maxLen; omega
      case c4 => rw [HL.out]; omega
      case c5 => simp; omega
      intro v' w2 hown' hgrow _
      have ho1 : OwnsB w2 B v' (l ++ putZ x (k + 1)) := ownsB_of hown' (by
        rw [HS.out, ← HM.out]; simp [Lib.byteCells])
      have hb1 : Kp B w w2 := HGk.out.push (by omega) HBk.out hgrow
      have HO2 := Lib.hid ho1; have HB2 := Lib.hid hb1; clear hown' hgrow ho1 hb1
      go_wp2_with fail
      go_roundg (n - (k + 1))
      case measure => rw [HK.out]; omega
      case rel => exact ⟨k + 1, rfl, by omega, by go_num, by rw [HD.out], HO2.out, HB2.out⟩
    · obtain rfl : k = n := by omega
      go_wp2_with fail
      exact bodyPost_ret (results_tmp2 Tryd.results21 _ _ _) rfl ⟨_, rfl, HBk.out, HGk.out⟩
set_option maxRecDepth 100000 in
set_option maxHeartbeats 2000000 in
/-- no sign, below 0 -/
theorem rput_below (v : Value) (x : Int) (n : Nat) (w : World) (hn : n ≤ 2) (hx : x < 0) (hx2 : -9223372036854775808 ≤ x) :
    Calls Tryd.prog 21 #[v, .int .i64 x, .int .i64 (n : Int)] w fun e w' => e = .returned (.tuple #[v, .bool false]) ∧ w' = w := by
  have hq : (x == 0) = false := by simp; omega
  obtain rfl | rfl | rfl : n = 0 ∨ n = 1 ∨ n = 2 := by omega
  · show Calls Tryd.prog 21 #[v, .int .i64 x, .int .i64 0] w _
    go_enter Tryd.func21, Tryd.ntmps21
    go_wp2_with fail
    refine wp_loop_rounds 1 ?_; rw [rounds_succ]
    go_wp2_with fail
    exact bodyPost_ret (results_tmp2 Tryd.results21 _ _ _) rfl ⟨rfl, rfl⟩
  · show Calls Tryd.prog 21 #[v, .int .i64 x, .int .i64 1] w _
    go_enter Tryd.func21, Tryd.ntmps21
    go_wp2_with fail
    refine wp_loop_rounds 1 ?_; rw [rounds_succ]
    go_wp2_with fail
    exact bodyPost_ret (results_tmp2 Tryd.results21 _ _ _) rfl ⟨rfl, rfl⟩
  · show Calls Tryd.prog 21 #[v, .int .i64 x, .int .i64 2] w _
    go_enter Tryd.func21, Tryd.ntmps21
    go_wp2_with fail
    refine wp_loop_rounds 1 ?_; rw [rounds_succ]
    go_wp2_with fail
    exact bodyPost_ret (results_tmp2 Tryd.results21 _ _ _) rfl ⟨rfl, rfl⟩
set_option maxRecDepth 100000 in
set_option maxHeartbeats 2000000 in
/-- a sign, out of range -/
theorem rput_out (v : Value) (x : Int) (n : Nat) (w : World) (hn : n = 1 ∨ n = 2) (hx : -9223372036854775808 ≤ x ∧ x < 9223372036854775808) (hf : fitsZ x n true = false) :
    Calls Tryd.prog 21 #[v, .int .i64 x, .int .i64 (-(n : Int))] w fun e w' => e = .returned (.tuple #[v, .bool false]) ∧ w' = w := by
  rcases hn with rfl | rfl
  · have hc : x < -128 ∨ 127 < x := by have := mt fits_s1.2 (by rw [hf]; decide); omega
    show Calls Tryd.prog 21 #[v, .int .i64 x, .int .i64 (-1)] w _
    rcases hc with hc | hc
    all_goals
      go_enter Tryd.func21, Tryd.ntmps21
      go_wp2_with fail
      all_goals exact bodyPost_ret (results_tmp2 Tryd.results21 _ _ _) rfl ⟨rfl, rfl⟩
  · have hc : x < -32768 ∨ 32767 < x := by have := mt fits_s2.2 (by rw [hf]; decide); omega
    show Calls Tryd.prog 21 #[v, .int .i64 x, .int .i64 (-2)] w _
    rcases hc with hc | hc
    all_goals
      go_enter Tryd.func21, Tryd.ntmps21
      go_wp2_with fail
      all_goals exact bodyPost_ret (results_tmp2 Tryd.results21 _ _ _) rfl ⟨rfl, rfl⟩
set_option maxRecDepth 100000 in
set_option maxHeartbeats 2000000 in
/-- a sign, in range -/
theorem rput_s1 (v : Value) (l : List UInt8) (x0 : Int) (w : World) (B : Nat) (hB : B ≤ w.heap.size) (h : OwnsB w B v l) (hl : l.length ≤ 100000) (h1 : -128 ≤ x0) (h2 : x0 ≤ 127) :
    Calls Tryd.prog 21 #[v, .int .i64 x0, .int .i64 (-1)] w fun e w' => ∃ v', e = .returned (.tuple #[v', .bool true]) ∧ OwnsB w' B v' (l ++ putZ x0 1) ∧ Kp B w w' := by
  obtain ⟨i0, hi, hz0, hz1, hz2⟩ := info_parts byteInfo
  have H := Lib.hid h
  have HT := Lib.hid (putZ_turn1 x0)
  have hx : 0 ≤ (x0 + 256) % 256 := by omega
  have hx2 : (x0 + 256) % 256 < 256 := by omega
  have d1 : decide (x0 < -128) = false := by simp; omega
  have d2 : decide (127 < x0) = false := by simp; omega
  have d3 : decide (128 ≤ x0) = false := by simp; omega
  clear h
  rw [← HT.out]
  go_enter Tryd.func21, Tryd.ntmps21
  go_wp2_with fail
  clear d1 d2 d3
  generalize hxe : (x0 + 256) % 256 = x at *
  have HX := Lib.hid hxe; clear hxe
  have he : (x / 256 == 0) = true := by simp; omega
  have HE := Lib.hid he; clear he
  go_loopg [0, 1, 9] 1 (fun g o y i wr => ∃ k : Nat, g = 1 - k ∧ k ≤ 1 ∧ i = .int .i64 k ∧ y = .int .i64 (x / 256 ^ k) ∧ OwnsB wr B o (l ++ putZ x k) ∧ Kp B w wr)
  case atStart => exact ⟨0, rfl, by omega, rfl, by simp, by rw [show l ++ putZ x 0 = l from List.append_nil l]; exact H.out, Kp.refl _ _⟩
  case round =>
    obtain ⟨k, hgk, hk, rfl, rfl, hb, hg⟩ := hrel
    have HBk := Lib.hid hb; have HGk := Lib.hid hg; have HK := Lib.hid hgk; clear hb hg hgk
    by_cases hlt : k < 1
    · have HL := Lib.hid (show (l ++ putZ x k).length = l.length + k by rw [List.length_append, putZ_length])
      have HS := Lib.hid (show putZ x (k + 1) = putZ x k ++ [byteZ x k] from rfl)
      have HM := Lib.hid (byteZ_mod x k)
      have HD := Lib.hid (div_pow_succ x k)
      have hwl := HGk.out.1.size
      have hy0 : 0 ≤ x / 256 ^ k := div_pow_nonneg hx k
      have hy1 : x / 256 ^ k ≤ x := div_pow_le hx k
      generalize x / 256 ^ k = y at *
      go_wp2_with (at_builtin; refine wpList_append_own _ rfl _ _ 29 rfl B 5 i0 (.int .u8 0) 1 1 Tryd.underlying29 hi hz0 hz1 hz2 rfl (by decide) _ _ _ rfl (HBk.out.alloc _) ⟨wr.heap.size, 0, none⟩ 1 1 [.int .u8 (y % 256)] rfl rfl ?c1 ?c2 ?c3 ?c4 ?c5 ?_)
      case c1 =>
        intro j u hj
        match j, hj with
        | 0, hj => simp at hj; subst hj; simp [Addr.add]
      case c2 => intro u hu; simp at hu; subst hu; rfl
      case c3 => rw [HL.out]; unfold maxLen; omega
      case c4 => rw [HL.out]; omega
      case c5 => simp; omega
      intro v' w2 hown' hgrow _
      have ho1 : OwnsB w2 B v' (l ++ putZ x (k + 1)) := ownsB_of hown' (by
        rw [HS.out, ← HM.out]; simp [Lib.byteCells])
      have hb1 : Kp B w w2 := HGk.out.push (by omega) HBk.out hgrow
      have HO2 := Lib.hid ho1; have HB2 := Lib.hid hb1; clear hown' hgrow ho1 hb1
      go_wp2_with fail
      go_roundg (1 - (k + 1))
      case measure => rw [HK.out]; omega
      case rel => exact ⟨k + 1, rfl, by omega, by go_num, by rw [HD.out], HO2.out, HB2.out⟩
    · obtain rfl : k = 1 := by omega
      go_wp2_with fail
      exact bodyPost_ret (results_tmp2 Tryd.results21 _ _ _) rfl ⟨_, congrArg (fun b => Ending.returned (Value.tuple #[_, Value.bool b])) HE.out, (by rw [HX.out]; exact HBk.out), HGk.out⟩
set_option maxRecDepth 100000 in
set_option maxHeartbeats 2000000 in
/-- a sign, in range -/
theorem rput_s2 (v : Value) (l : List UInt8) (x0 : Int) (w : World) (B : Nat) (hB : B ≤ w.heap.size) (h : OwnsB w B v l) (hl : l.length ≤ 100000) (h1 : -32768 ≤ x0) (h2 : x0 ≤ 32767) :
    Calls Tryd.prog 21 #[v, .int .i64 x0, .int .i64 (-2)] w fun e w' => ∃ v', e = .returned (.tuple #[v', .bool true]) ∧ OwnsB w' B v' (l ++ putZ x0 2) ∧ Kp B w w' := by
  obtain ⟨i0, hi, hz0, hz1, hz2⟩ := info_parts byteInfo
  have H := Lib.hid h
  have HT := Lib.hid (putZ_turn2 x0)
  have hx : 0 ≤ (x0 + 65536) % 65536 := by omega
  have hx2 : (x0 + 65536) % 65536 < 65536 := by omega
  have d1 : decide (x0 < -32768) = false := by simp; omega
  have d2 : decide (32767 < x0) = false := by simp; omega
  have d3 : decide (32768 ≤ x0) = false := by simp; omega
  clear h
  rw [← HT.out]
  go_enter Tryd.func21, Tryd.ntmps21
  go_wp2_with fail
  clear d1 d2 d3
  generalize hxe : (x0 + 65536) % 65536 = x at *
  have HX := Lib.hid hxe; clear hxe
  have he : (x / 65536 == 0) = true := by simp; omega
  have HE := Lib.hid he; clear he
  go_loopg [0, 1, 9] 2 (fun g o y i wr => ∃ k : Nat, g = 2 - k ∧ k ≤ 2 ∧ i = .int .i64 k ∧ y = .int .i64 (x / 256 ^ k) ∧ OwnsB wr B o (l ++ putZ x k) ∧ Kp B w wr)
  case atStart => exact ⟨0, rfl, by omega, rfl, by simp, by rw [show l ++ putZ x 0 = l from List.append_nil l]; exact H.out, Kp.refl _ _⟩
  case round =>
    obtain ⟨k, hgk, hk, rfl, rfl, hb, hg⟩ := hrel
    have HBk := Lib.hid hb; have HGk := Lib.hid hg; have HK := Lib.hid hgk; clear hb hg hgk
    by_cases hlt : k < 2
    · have HL := Lib.hid (show (l ++ putZ x k).length = l.length + k by rw [List.length_append, putZ_length])
      have HS := Lib.hid (show putZ x (k + 1) = putZ x k ++ [byteZ x k] from rfl)
      have HM := Lib.hid (byteZ_mod x k)
      have HD := Lib.hid (div_pow_succ x k)
      have hwl := HGk.out.1.size
      have hy0 : 0 ≤ x / 256 ^ k := div_pow_nonneg hx k
      have hy1 : x / 256 ^ k ≤ x := div_pow_le hx k
      generalize x / 256 ^ k = y at *
      go_wp2_with (at_builtin; refine wpList_append_own _ rfl _ _ 29 rfl B 5 i0 (.int .u8 0) 1 1 Tryd.underlying29 hi hz0 hz1 hz2 rfl (by decide) _ _ _ rfl (HBk.out.alloc _) ⟨wr.heap.size, 0, none⟩ 1 1 [.int .u8 (y % 256)] rfl rfl ?c1 ?c2 ?c3 ?c4 ?c5 ?_)
      case c1 =>
        intro j u hj
        match j, hj with
        | 0, hj => simp at hj; subst hj; simp [Addr.add]
      case c2 => intro u hu; simp at hu; subst hu; rfl
      case c3 => rw [HL.out]; unfold maxLen; omega
      case c4 => rw [HL.out]; omega
      case c5 => simp; omega
      intro v' w2 hown' hgrow _
      have ho1 : OwnsB w2 B v' (l ++ putZ x (k + 1)) := ownsB_of hown' (by
        rw [HS.out, ← HM.out]; simp [Lib.byteCells])
      have hb1 : Kp B w w2 := HGk.out.push (by omega) HBk.out hgrow
      have HO2 := Lib.hid ho1; have HB2 := Lib.hid hb1; clear hown' hgrow ho1 hb1
      go_wp2_with fail
      go_roundg (2 - (k + 1))
      case measure => rw [HK.out]; omega
      case rel => exact ⟨k + 1, rfl, by omega, by go_num, by rw [HD.out], HO2.out, HB2.out⟩
    · obtain rfl : k = 2 := by omega
      go_wp2_with fail
      exact bodyPost_ret (results_tmp2 Tryd.results21 _ _ _) rfl ⟨_, congrArg (fun b => Ending.returned (Value.tuple #[_, Value.bool b])) HE.out, (by rw [HX.out]; exact HBk.out), HGk.out⟩
/-- the document's put: as many bytes as a form tells, below 0 with a sign; l' is what there is behind it -/
theorem rput_any (v : Value) (l : List UInt8) (x : Int) (n : Nat) (sg : Bool) (w : World) (B : Nat) (hn : n ≤ 2) (hs : n = 0 → sg = false) (hB : B ≤ w.heap.size) (h : OwnsB w B v l) (hl : l.length ≤ 100000) (hx : -9223372036854775808 ≤ x ∧ x < 9223372036854775808) :
    Calls Tryd.prog 21 #[v, .int .i64 x, .int .i64 (if sg then -(n : Int) else n)] w fun e w' => ∃ v' l', e = .returned (.tuple #[v', .bool (fitsZ x n sg)]) ∧ OwnsB w' B v' l' ∧ l'.length ≤ l.length + 2 ∧ (fitsZ x n sg = true → l' = l ++ putZ x n) ∧ Kp B w w' := by
  have hpl : (l ++ putZ x n).length ≤ l.length + 2 := by rw [List.length_append, putZ_length]; omega
  cases sg
  · simp only [Bool.false_eq_true, if_false]
    have hf : fitsZ x n false = (decide (0 ≤ x) && (x / 256 ^ n == 0)) := by
      unfold fitsZ
      simp only [Bool.false_and, Bool.false_eq_true, if_false]
      by_cases h0 : 0 ≤ x
      · rw [decide_eq_true h0, Bool.true_and, Bool.true_and, show ((256 : Int) ^ n) = 2 ^ (8 * n) by rw [Int.pow_mul]; rfl]
        have hp : (0 : Int) < 2 ^ (8 * n) := Int.pow_pos (by decide)
        rw [Bool.eq_iff_iff, decide_eq_true_eq, beq_iff_eq]
        constructor
        · exact fun h => Int.ediv_eq_zero_of_lt h0 h
        · intro h
          have := Int.lt_ediv_add_one_mul_self x hp
          rw [h] at this; omega
      · rw [decide_eq_false h0]; rfl
    by_cases h0 : 0 ≤ x
    · rw [hf, decide_eq_true h0, Bool.true_and]
      refine (rput_plain v l x n w B hn hB h hl h0 hx.2).mono ?_
      rintro e w' ⟨v', rfl, h1, h2⟩
      exact ⟨v', _, rfl, h1, hpl, fun _ => rfl, h2⟩
    · rw [hf, decide_eq_false h0, Bool.false_and]
      refine (rput_below v x n w hn (by omega) hx.1).mono ?_
      rintro e w' ⟨rfl, rfl⟩
      exact ⟨v, l, rfl, h, by omega, (fun h => by cases h), Kp.refl _ _⟩
  · simp only [if_true]
    have hn' : n = 1 ∨ n = 2 := by
      rcases Nat.eq_zero_or_pos n with h0 | h0
      · cases hs h0
      · omega
    cases hf : fitsZ x n true
    · refine (rput_out v x n w hn' hx hf).mono ?_
      rintro e w' ⟨rfl, rfl⟩
      exact ⟨v, l, rfl, h, by omega, (fun h => by cases h), Kp.refl _ _⟩
    · rcases hn' with rfl | rfl
      · have hb := fits_s1.1 hf
        refine (rput_s1 v l x w B hB h hl hb.1 (by omega)).mono ?_
        rintro e w' ⟨v', rfl, h1, h2⟩
        exact ⟨v', _, rfl, h1, hpl, fun _ => rfl, h2⟩
      · have hb := fits_s2.1 hf
        refine (rput_s2 v l x w B hB h hl hb.1 (by omega)).mono ?_
        rintro e w' ⟨v', rfl, h1, h2⟩
        exact ⟨v', _, rfl, h1, hpl, fun _ => rfl, h2⟩
end Go.Proofs.YtnajgpefmknmpaaDoor
