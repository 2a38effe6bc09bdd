/- A number as bytes: the program's put, out of range, and in range. -/
import Derived.Test.YtnajgpefmknmpaaDoorCodeC
namespace Go.Proofs.YtnajgpefmknmpaaDoor
open Go.RowKit
set_option linter.unusedVariables false
set_option maxRecDepth 100000 in
set_option maxHeartbeats 1000000 in
theorem cput_no (v : Value) (l : List UInt8) (x : Int) (n : Nat) (sg : Bool) (w : World) (B : Nat) (hn : n = 1 ∨ n = 2) (hB : B ≤ w.heap.size) (h : OwnsB w B v l) (hx : -9223372036854775808 ≤ x ∧ x < 9223372036854775808) (hf : fitsZ x n sg = false) :
    Calls Tryd.prog 19 #[v, .int .i64 x, .int .i64 (n : Int), .bool sg] w fun e w' => e = .returned (.tuple #[v, .bool false]) ∧ OwnsB w' B v l ∧ Kp B w w' := by
  have H := Lib.hid h
  have hc : (n = 1 ∧ sg = false ∧ (x < 0 ∨ 255 < x)) ∨ (n = 1 ∧ sg = true ∧ (x < -128 ∨ 127 < x)) ∨ (n = 2 ∧ sg = false ∧ (x < 0 ∨ 65535 < x)) ∨ (n = 2 ∧ sg = true ∧ (x < -32768 ∨ 32767 < x)) := by
    rcases hn with rfl | rfl <;> cases sg
    · have := mt fits_u1.2 (by rw [hf]; decide); exact Or.inl ⟨rfl, rfl, by omega⟩
    · have := mt fits_s1.2 (by rw [hf]; decide); exact Or.inr (Or.inl ⟨rfl, rfl, by omega⟩)
    · have := mt fits_u2.2 (by rw [hf]; decide); exact Or.inr (Or.inr (Or.inl ⟨rfl, rfl, by omega⟩))
    · have := mt fits_s2.2 (by rw [hf]; decide); exact Or.inr (Or.inr (Or.inr ⟨rfl, rfl, by omega⟩))
  clear hf hn h
  rcases hc with ⟨rfl, rfl, h | h⟩ | ⟨rfl, rfl, h | h⟩ | ⟨rfl, rfl, h | h⟩ | ⟨rfl, rfl, h | h⟩
  all_goals
    go_enter Tryd.func19, Tryd.ntmps19
    go_wp2_with fail
    go_region
    go_wp2_with fail
    try (go_region; go_wp2_with fail)
    all_goals exact bodyPost_ret (results_tmp2 Tryd.results19 _ _ _) rfl ⟨rfl, owns_later H.out (by repeat (first | exact Below.refl _ _ | apply Below.drew)), (by repeat (first | exact Kp.refl _ _ | apply Kp.drew))⟩
theorem byteZ_int (x : Int) (k : Nat) : ((byteZ x k).toNat : Int) = x / 2 ^ (8 * k) % 256 := by
  rw [byteZ_nat, show ((256 : Int) ^ k) = 2 ^ (8 * k) by rw [Int.pow_mul]; rfl]
  have : 0 ≤ (x / (2 : Int) ^ (8 * k)) % 256 := Int.emod_nonneg _ (by decide)
  omega
set_option maxRecDepth 100000 in
set_option maxHeartbeats 2000000 in
theorem cput_yes (v : Value) (l : List UInt8) (x : Int) (n : Nat) (sg : Bool) (w : World) (B : Nat) (hn : n = 1 ∨ n = 2) (hB : B ≤ w.heap.size) (h : OwnsB w B v l) (hl : l.length ≤ 100000) (hf : fitsZ x n sg = true) :
    Calls Tryd.prog 19 #[v, .int .i64 x, .int .i64 (n : Int), .bool sg] w fun e w' => ∃ v', e = .returned (.tuple #[v', .bool true]) ∧ OwnsB w' B v' (l ++ putZ x n) ∧ Kp B w w' := by
  obtain ⟨i0, hi, hz0, hz1, hz2⟩ := info_parts byteInfo
  have H := Lib.hid h
  have hc : (n = 1 ∧ sg = false ∧ 0 ≤ x ∧ x ≤ 255) ∨ (n = 1 ∧ sg = true ∧ -128 ≤ x ∧ x ≤ 127) ∨ (n = 2 ∧ sg = false ∧ 0 ≤ x ∧ x ≤ 65535) ∨ (n = 2 ∧ sg = true ∧ -32768 ≤ x ∧ x ≤ 32767) := by
    rcases hn with rfl | rfl <;> cases sg
    · have := fits_u1.1 hf; exact Or.inl ⟨rfl, rfl, by omega⟩
    · have := fits_s1.1 hf; exact Or.inr (Or.inl ⟨rfl, rfl, by omega⟩)
    · have := fits_u2.1 hf; exact Or.inr (Or.inr (Or.inl ⟨rfl, rfl, by omega⟩))
    · have := fits_s2.1 hf; exact Or.inr (Or.inr (Or.inr ⟨rfl, rfl, by omega⟩))
  clear hf hn h
  rcases hc with ⟨rfl, rfl, h1, h2⟩ | ⟨rfl, rfl, h1, h2⟩ | ⟨rfl, rfl, h1, h2⟩ | ⟨rfl, rfl, h1, h2⟩
  · have d1 : decide (x < 0) = false := by simp; omega
    have d2 : decide (255 < x) = false := by simp; omega
    show Calls Tryd.prog 19 #[v, .int .i64 x, .int .i64 1, .bool _] w _
    go_enter Tryd.func19, Tryd.ntmps19
    go_wp2_with fail
    go_region
    go_wp2_with fail
    try (go_region; go_wp2_with fail)
    clear d1 d2
    go_loopg [0, 13, 41] 1 (fun g o z i wr => ∃ k : Nat, g = 1 - k ∧ k ≤ 1 ∧ i = .int .i64 k ∧ OwnsB wr B o (l ++ putZ x k) ∧ Kp B w wr)
    case atStart => exact ⟨0, rfl, by omega, rfl, by rw [show l ++ putZ x 0 = l from List.append_nil l]; exact owns_later H.out (by repeat (first | exact Below.refl _ _ | apply Below.drew)), (by repeat (first | exact Kp.refl _ _ | apply Kp.drew))⟩
    case round =>
      obtain ⟨k, hgk, hk, rfl, hb, hg⟩ := hrel
      have HBk := Lib.hid hb; have HGk := Lib.hid hg; have HK := Lib.hid hgk; clear hb hg hgk
      by_cases hlt : k < 1
      · have HL := Lib.hid (show (l ++ putZ x k).length = l.length + k by rw [List.length_append, putZ_length])
        have HS := Lib.hid (show putZ x (k + 1) = putZ x k ++ [byteZ x k] from rfl)
        have hwl := HGk.out.1.size
        go_wp2_with (at_builtin; refine wpList_append_own _ rfl _ _ 29 rfl B 5 i0 (.int .u8 0) 1 1 Tryd.underlying29 hi hz0 hz1 hz2 rfl (by decide) _ _ _ rfl (HBk.out.alloc _) ⟨wr.heap.size, 0, none⟩ 1 1 [.int .u8 (x / 2 ^ (8 * k) % 256)] rfl rfl ?c1 ?c2 ?c3 ?c4 ?c5 ?_)
        case c1 =>
          intro j u hj
          match j, hj with
          | 0, hj => simp at hj; subst hj; simp [Addr.add]
        case c2 => intro u hu; simp at hu; subst hu; rfl
        case c3 => rw [HL.out]; unfold maxLen; omega
        case c4 => rw [HL.out]; omega
        case c5 => simp; omega
        intro v' w2 hown' hgrow _
        have ho1 : OwnsB w2 B v' (l ++ putZ x (k + 1)) := ownsB_of hown' (by
          rw [HS.out, ← byteZ_int]; simp [Lib.byteCells])
        have hb1 : Kp B w w2 := HGk.out.push (by omega) HBk.out hgrow
        have HO2 := Lib.hid ho1; have HB2 := Lib.hid hb1; clear hown' hgrow ho1 hb1
        go_wp2_with fail
        go_roundg (1 - (k + 1))
        case measure => rw [HK.out]; omega
        case rel => exact ⟨k + 1, rfl, by omega, by go_num, HO2.out, HB2.out⟩
      · obtain rfl : k = 1 := by omega
        go_wp2_with fail
        exact bodyPost_ret (results_tmp2 Tryd.results19 _ _ _) rfl ⟨_, rfl, HBk.out, HGk.out⟩
  · have d1 : decide (x < -128) = false := by simp; omega
    have d2 : decide (127 < x) = false := by simp; omega
    show Calls Tryd.prog 19 #[v, .int .i64 x, .int .i64 1, .bool _] w _
    go_enter Tryd.func19, Tryd.ntmps19
    go_wp2_with fail
    go_region
    go_wp2_with fail
    try (go_region; go_wp2_with fail)
    clear d1 d2
    go_loopg [0, 13, 41] 1 (fun g o z i wr => ∃ k : Nat, g = 1 - k ∧ k ≤ 1 ∧ i = .int .i64 k ∧ OwnsB wr B o (l ++ putZ x k) ∧ Kp B w wr)
    case atStart => exact ⟨0, rfl, by omega, rfl, by rw [show l ++ putZ x 0 = l from List.append_nil l]; exact owns_later H.out (by repeat (first | exact Below.refl _ _ | apply Below.drew)), (by repeat (first | exact Kp.refl _ _ | apply Kp.drew))⟩
    case round =>
      obtain ⟨k, hgk, hk, rfl, hb, hg⟩ := hrel
      have HBk := Lib.hid hb; have HGk := Lib.hid hg; have HK := Lib.hid hgk; clear hb hg hgk
      by_cases hlt : k < 1
      · have HL := Lib.hid (show (l ++ putZ x k).length = l.length + k by rw [List.length_append, putZ_length])
        have HS := Lib.hid (show putZ x (k + 1) = putZ x k ++ [byteZ x k] from rfl)
        have hwl := HGk.out.1.size
        go_wp2_with (at_builtin; refine wpList_append_own _ rfl _ _ 29 rfl B 5 i0 (.int .u8 0) 1 1 Tryd.underlying29 hi hz0 hz1 hz2 rfl (by decide) _ _ _ rfl (HBk.out.alloc _) ⟨wr.heap.size, 0, none⟩ 1 1 [.int .u8 (x / 2 ^ (8 * k) % 256)] rfl rfl ?c1 ?c2 ?c3 ?c4 ?c5 ?_)
        case c1 =>
          intro j u hj
          match j, hj with
          | 0, hj => simp at hj; subst hj; simp [Addr.add]
        case c2 => intro u hu; simp at hu; subst hu; rfl
        case c3 => rw [HL.out]; unfold maxLen; omega
        case c4 => rw [HL.out]; omega
        case c5 => simp; omega
        intro v' w2 hown' hgrow _
        have ho1 : OwnsB w2 B v' (l ++ putZ x (k + 1)) := ownsB_of hown' (by
          rw [HS.out, ← byteZ_int]; simp [Lib.byteCells])
        have hb1 : Kp B w w2 := HGk.out.push (by omega) HBk.out hgrow
        have HO2 := Lib.hid ho1; have HB2 := Lib.hid hb1; clear hown' hgrow ho1 hb1
        go_wp2_with fail
        go_roundg (1 - (k + 1))
        case measure => rw [HK.out]; omega
        case rel => exact ⟨k + 1, rfl, by omega, by go_num, HO2.out, HB2.out⟩
      · obtain rfl : k = 1 := by omega
        go_wp2_with fail
        exact bodyPost_ret (results_tmp2 Tryd.results19 _ _ _) rfl ⟨_, rfl, HBk.out, HGk.out⟩
  · have d1 : decide (x < 0) = false := by simp; omega
    have d2 : decide (65535 < x) = false := by simp; omega
    show Calls Tryd.prog 19 #[v, .int .i64 x, .int .i64 2, .bool _] w _
    go_enter Tryd.func19, Tryd.ntmps19
    go_wp2_with fail
    go_region
    go_wp2_with fail
    try (go_region; go_wp2_with fail)
    clear d1 d2
    go_loopg [0, 13, 41] 2 (fun g o z i wr => ∃ k : Nat, g = 2 - k ∧ k ≤ 2 ∧ i = .int .i64 k ∧ OwnsB wr B o (l ++ putZ x k) ∧ Kp B w wr)
    case atStart => exact ⟨0, rfl, by omega, rfl, by rw [show l ++ putZ x 0 = l from List.append_nil l]; exact owns_later H.out (by repeat (first | exact Below.refl _ _ | apply Below.drew)), (by repeat (first | exact Kp.refl _ _ | apply Kp.drew))⟩
    case round =>
      obtain ⟨k, hgk, hk, rfl, hb, hg⟩ := hrel
      have HBk := Lib.hid hb; have HGk := Lib.hid hg; have HK := Lib.hid hgk; clear hb hg hgk
      by_cases hlt : k < 2
      · have HL := Lib.hid (show (l ++ putZ x k).length = l.length + k by rw [List.length_append, putZ_length])
        have HS := Lib.hid (show putZ x (k + 1) = putZ x k ++ [byteZ x k] from rfl)
        have hwl := HGk.out.1.size
        go_wp2_with (at_builtin; refine wpList_append_own _ rfl _ _ 29 rfl B 5 i0 (.int .u8 0) 1 1 Tryd.underlying29 hi hz0 hz1 hz2 rfl (by decide) _ _ _ rfl (HBk.out.alloc _) ⟨wr.heap.size, 0, none⟩ 1 1 [.int .u8 (x / 2 ^ (8 * k) % 256)] rfl rfl ?c1 ?c2 ?c3 ?c4 ?c5 ?_)
        case c1 =>
          intro j u hj
          match j, hj with
          | 0, hj => simp at hj; subst hj; simp [Addr.add]
        case c2 => intro u hu; simp at hu; subst hu; rfl
        case c3 => rw [HL.out]; unfold maxLen; omega
        case c4 => rw [HL.out]; omega
        case c5 => simp; omega
        intro v' w2 hown' hgrow _
        have ho1 : OwnsB w2 B v' (l ++ putZ x (k + 1)) := ownsB_of hown' (by
          rw [HS.out, ← byteZ_int]; simp [Lib.byteCells])
        have hb1 : Kp B w w2 := HGk.out.push (by omega) HBk.out hgrow
        have HO2 := Lib.hid ho1; have HB2 := Lib.hid hb1; clear hown' hgrow ho1 hb1
        go_wp2_with fail
        go_roundg (2 - (k + 1))
        case measure => rw [HK.out]; omega
        case rel => exact ⟨k + 1, rfl, by omega, by go_num, HO2.out, HB2.out⟩
      · obtain rfl : k = 2 := by omega
        go_wp2_with fail
        exact bodyPost_ret (results_tmp2 Tryd.results19 _ _ _) rfl ⟨_, rfl, HBk.out, HGk.out⟩
  · have d1 : decide (x < -32768) = false := by simp; omega
    have d2 : decide (32767 < x) = false := by simp; omega
    show Calls Tryd.prog 19 #[v, .int .i64 x, .int .i64 2, .bool _] w _
    go_enter Tryd.func19, Tryd.ntmps19
    go_wp2_with fail
    go_region
    go_wp2_with fail
    try (go_region; go_wp2_with fail)
    clear d1 d2
    go_loopg [0, 13, 41] 2 (fun g o z i wr => ∃ k : Nat, g = 2 - k ∧ k ≤ 2 ∧ i = .int .i64 k ∧ OwnsB wr B o (l ++ putZ x k) ∧ Kp B w wr)
    case atStart => exact ⟨0, rfl, by omega, rfl, by rw [show l ++ putZ x 0 = l from List.append_nil l]; exact owns_later H.out (by repeat (first | exact Below.refl _ _ | apply Below.drew)), (by repeat (first | exact Kp.refl _ _ | apply Kp.drew))⟩
    case round =>
      obtain ⟨k, hgk, hk, rfl, hb, hg⟩ := hrel
      have HBk := Lib.hid hb; have HGk := Lib.hid hg; have HK := Lib.hid hgk; clear hb hg hgk
      by_cases hlt : k < 2
      · have HL := Lib.hid (show (l ++ putZ x k).length = l.length + k by rw [List.length_append, putZ_length])
        have HS := Lib.hid (show putZ x (k + 1) = putZ x k ++ [byteZ x k] from rfl)
        have hwl := HGk.out.1.size
        go_wp2_with (at_builtin; refine wpList_append_own _ rfl _ _ 29 rfl B 5 i0 (.int .u8 0) 1 1 Tryd.underlying29 hi hz0 hz1 hz2 rfl (by decide) _ _ _ rfl (HBk.out.alloc _) ⟨wr.heap.size, 0, none⟩ 1 1 [.int .u8 (x / 2 ^ (8 * k) % 256)] rfl rfl ?c1 ?c2 ?c3 ?c4 ?c5 ?_)
        case c1 =>
          intro j u hj
          match j, hj with
          | 0, hj => simp at hj; subst hj; simp [Addr.add]
        case c2 => intro u hu; simp at hu; subst hu; rfl
        case c3 => rw [HL.out]; unfold maxLen; omega
        case c4 => rw [HL.out]; omega
        case c5 => simp; omega
        intro v' w2 hown' hgrow _
        have ho1 : OwnsB w2 B v' (l ++ putZ x (k + 1)) := ownsB_of hown' (by
          rw [HS.out, ← byteZ_int]; simp [Lib.byteCells])
        have hb1 : Kp B w w2 := HGk.out.push (by omega) HBk.out hgrow
        have HO2 := Lib.hid ho1; have HB2 := Lib.hid hb1; clear hown' hgrow ho1 hb1
        go_wp2_with fail
        go_roundg (2 - (k + 1))
        case measure => rw [HK.out]; omega
        case rel => exact ⟨k + 1, rfl, by omega, by go_num, HO2.out, HB2.out⟩
      · obtain rfl : k = 2 := by omega
        go_wp2_with fail
        exact bodyPost_ret (results_tmp2 Tryd.results19 _ _ _) rfl ⟨_, rfl, HBk.out, HGk.out⟩
/-- the program's put, of up to two bytes -/
theorem cput_any (v : Value) (l : List UInt8) (x : Int) (n : Nat) (sg : Bool) (w : World) (B : Nat) (hn : n ≤ 2) (hB : B ≤ w.heap.size) (h : OwnsB w B v l) (hl : l.length ≤ 100000) (hx : -9223372036854775808 ≤ x ∧ x < 9223372036854775808) :
    Calls Tryd.prog 19 #[v, .int .i64 x, .int .i64 (n : Int), .bool sg] w fun e w' => ∃ v', e = .returned (.tuple #[v', .bool (fitsZ x n sg)]) ∧ OwnsB w' B v' (cput l x n sg) ∧ Kp B w w' := by
  rcases Nat.eq_zero_or_pos n with h0 | h0
  · subst h0; exact cput_none v l x sg w B hB h hl hx
  · have hn' : n = 1 ∨ n = 2 := by omega
    unfold cput
    cases hf : fitsZ x n sg
    · refine (cput_no v l x n sg w B hn' hB h hx hf).mono ?_
      rintro e w' ⟨rfl, h1, h2⟩
      exact ⟨v, rfl, h1, h2⟩
    · refine (cput_yes v l x n sg w B hn' hB h hl hf).mono ?_
      rintro e w' ⟨v', rfl, h1, h2⟩
      exact ⟨v', rfl, h1, h2⟩
end Go.Proofs.YtnajgpefmknmpaaDoor
