/- The reference's Quote, and both lines of an event. -/
import Derived.Test.YtffmkmhnhecmnaaQuote
import Derived.Test.YtffmkmhnhecmnaaMem
namespace Go.Proofs.Ytffmkmhnhecmnaa
open Go.RowKit
theorem hex_any (x : Int) (h0 : 0 ≤ x) (h1 : x < 16) (w : World) : Calls Try.prog 34 #[.int .u8 x] w fun e w' => e = .returned (.int .u8 ((hexD x.toNat).toNat : Int)) ∧ w = w' := by
  obtain ⟨n, rfl⟩ := Int.eq_ofNat_of_zero_le h0
  rw [Int.toNat_natCast]
  by_cases h : n < 10
  · have E := Lib.hid (show ((hexD n).toNat : Int) = 48 + n by unfold hexD; rw [if_pos h]; simp; omega)
    rw [E.out]
    go_enter Try.func34, Try.ntmps34
    go_wp2
    go_ret
    exact ⟨rfl, rfl⟩
  · have E := Lib.hid (show ((hexD n).toNat : Int) = 97 + n - 10 by unfold hexD; rw [if_neg h]; simp; omega)
    rw [E.out]
    go_enter Try.func34, Try.ntmps34
    go_wp2
    go_ret
    exact ⟨rfl, rfl⟩
theorem owns_one {w : World} {e : TypeId} {cs : List Value} {n : Nat} (hn : cs.length = n) (hm : n ≤ maxLen) : (w.alloc (.cells cs.toArray e)).ownsRow w.heap.size e 1 (.slice (some ⟨w.heap.size, 0, none⟩) n n) n cs :=
  ⟨by omega, .inr ⟨w.heap.size, n, cs.toArray, rfl, Nat.le_refl _, heap_alloc_new w _, Nat.le_refl _, hm, by simp [hn], by simp [← hn]⟩⟩
/-- a slice of the call's own that holds these bytes -/
def OwnsB (w : World) (B : Nat) (v : Value) (l : List UInt8) : Prop := w.ownsRow B 5 1 v l.length (Lib.byteCells l)
theorem ownsB_of {w : World} {B n : Nat} {v : Value} {xs : List Value} {l : List UInt8} (h : w.ownsRow B 5 1 v n xs) (hx : xs = Lib.byteCells l) : OwnsB w B v l := by
  subst hx
  have hn : n = l.length := by have := h.1; rw [Lib.byteCells_length] at this; omega
  subst hn
  exact h
set_option maxRecDepth 100000 in
set_option maxHeartbeats 800000 in
theorem rquote_any (s : ByteArray) (w : World) (hs : s.size ≤ 1000000) :
    Calls Try.prog 27 #[.string s] w fun e w' => e = .returned (.string ⟨(quoteL s.data.toList).toArray⟩) ∧ Below w.heap.size w w' := by
  obtain ⟨i0, hi, hz0, hz1, hz2⟩ := info_parts byteInfo
  go_enter Try.func27, Try.ntmps27
  go_wp2_with fail
  go_loopg [3, 4] s.size (fun g v i wr => ∃ k : Nat, g = s.size - k ∧ k ≤ s.size ∧ i = .int .i64 k ∧ OwnsB wr w.heap.size v (34 :: qAll (s.data.toList.take k)) ∧ Below w.heap.size w wr)
  case atStart => exact ⟨0, by omega, by omega, rfl, ownsB_of (owns_one (w := w) (e := 5) (cs := [.int .u8 34]) rfl (by decide)) (by simp [Lib.byteCells, qAll]), (Below.refl _ _).alloc (Nat.le_refl _) _⟩
  case round =>
    obtain ⟨k, hgk, hk, rfl, hown, hg⟩ := hrel
    have hln : (34 :: qAll (s.data.toList.take k)).length ≤ 3 * s.size + 1 := by have := qcells_len s k; rwa [Lib.byteCells_length] at this
    have HO := Lib.hid hown; have HGk := Lib.hid hg; have HK := Lib.hid hgk; clear hown hg hgk
    by_cases hlt : k < s.size
    · have hcb : s[k].toNat < 256 := s[k].toNat_lt
      by_cases hp : plainB s[k] = true
      · have hp' : 32 ≤ s[k].toNat ∧ s[k].toNat ≤ 126 ∧ s[k].toNat ≠ 34 ∧ s[k].toNat ≠ 92 := by unfold plainB at hp; exact of_decide_eq_true hp
        obtain ⟨p1, p2, p3, p4⟩ := hp'
        have b1 : decide ((32 : Int) ≤ (s[k].toNat : Int)) = true := by rw [decide_eq_true_eq]; omega
        have b2 : decide ((s[k].toNat : Int) ≤ 126) = true := by rw [decide_eq_true_eq]; omega
        have b3 : ((s[k].toNat : Int) != 34) = true := by rw [bne_iff_ne]; omega
        have b4 : ((s[k].toNat : Int) != 92) = true := by rw [bne_iff_ne]; omega
        have HP := Lib.hid hp; clear hp p3 p4
        have hz2' := HGk.out.size
        go_wp2_with (at_builtin; refine wpList_append_own _ rfl _ _ 33 rfl w.heap.size 5 i0 (.int .u8 0) 1 1 Try.underlying33 hi hz0 hz1 hz2 rfl (by decide) _ _ _ rfl (HO.out.alloc _) ⟨wr.heap.size, 0, none⟩ 1 1 [.int .u8 (s[k].toNat : Int)] rfl rfl ?c1 ?c2 ?c3 ?c4 ?c5 ?_)
        case c1 =>
          intro j u hj
          match j, hj with
          | 0, hj => simp at hj; subst hj; simp [Addr.add]
        case c2 => intro u hu; simp at hu; subst hu; rfl
        case c3 => unfold maxLen; omega
        case c4 => omega
        case c5 => simp; omega
        intro v' w1 hown' hgrow _
        have ho1 := ownsB_of hown' (qcells_plain s k hlt HP.out)
        have hb1 := (HGk.out.alloc (by omega) (.cells #[.int .u8 (s[k].toNat : Int)] 5)).grown hgrow (by simp; omega) (fun q hq => (HO.out.lt q hq).1)
        have HO1 := Lib.hid ho1; have HB1 := Lib.hid hb1; clear hown' hb1 hgrow ho1
        go_wp2_with fail
        go_roundg (s.size - (k + 1))
        case measure => rw [HK.out]; omega
        case rel => exact ⟨k + 1, rfl, by omega, by go_num, HO1.out, HB1.out⟩
      · have hp' : ¬ (32 ≤ s[k].toNat ∧ s[k].toNat ≤ 126 ∧ s[k].toNat ≠ 34 ∧ s[k].toNat ≠ 92) := fun h => hp (by unfold plainB; exact decide_eq_true h)
        have hcase : s[k].toNat < 32 ∨ 126 < s[k].toNat ∨ (34 ≤ s[k].toNat ∧ s[k].toNat ≤ 34) ∨ (92 ≤ s[k].toNat ∧ s[k].toNat ≤ 92) := by omega
        have HP := Lib.hid hp; clear hp hp'
        have hz2' := HGk.out.size
        have d1 := Lib.hid (hex_any ((s[k].toNat : Int) / 16) (by omega) (by omega))
        have d2 := Lib.hid (hex_any ((s[k].toNat : Int) % 16) (by omega) (by omega))
        rcases hcase with h | h | ⟨h, h'⟩ | ⟨h, h'⟩
        · go_wp2_with fail
          refine (d1.out _).mono ?_; rintro e w5 ⟨rfl, rfl⟩
          rw [show ((s[k].toNat : Int) / 16).toNat = s[k].toNat / 16 from by omega]
          go_wp2_with fail
          refine (d2.out _).mono ?_; rintro e w5 ⟨rfl, rfl⟩
          rw [show ((s[k].toNat : Int) % 16).toNat = s[k].toNat % 16 from by omega]
          go_wp2_with (at_builtin; refine wpList_append_own _ rfl _ _ 33 rfl w.heap.size 5 i0 (.int .u8 0) 1 1 Try.underlying33 hi hz0 hz1 hz2 rfl (by decide) _ _ _ rfl (HO.out.alloc _) ⟨wr.heap.size, 0, none⟩ 3 3 [.int .u8 92, .int .u8 ((hexD (s[k].toNat / 16)).toNat : Int), .int .u8 ((hexD (s[k].toNat % 16)).toNat : Int)] rfl rfl ?x10 ?x20 ?x30 ?x40 ?x50 ?_)
          case x10 =>
            intro j u hj
            match j, hj with
            | 0, hj => simp at hj; subst hj; simp [Addr.add]
            | 1, hj => simp at hj; subst hj; simp [Addr.add]
            | 2, hj => simp at hj; subst hj; simp [Addr.add]
          case x20 => intro u hu; simp at hu; rcases hu with rfl | rfl | rfl <;> rfl
          case x30 => unfold maxLen; omega
          case x40 => omega
          case x50 => simp; omega
          intro v' w1 hown' hgrow _
          have ho1 := ownsB_of hown' (qcells_hex s k hlt HP.out)
          have hb1 := (HGk.out.alloc (by omega) (.cells #[.int .u8 92, .int .u8 ((hexD (s[k].toNat / 16)).toNat : Int), .int .u8 ((hexD (s[k].toNat % 16)).toNat : Int)] 5)).grown hgrow (by simp; omega) (fun q hq => (HO.out.lt q hq).1)
          have HO1 := Lib.hid ho1; have HB1 := Lib.hid hb1; clear hown' hb1 hgrow ho1
          go_wp2_with fail
          go_roundg (s.size - (k + 1))
          case measure => rw [HK.out]; omega
          case rel => exact ⟨k + 1, rfl, by omega, by go_num, HO1.out, HB1.out⟩
        · have b1 : decide ((32 : Int) ≤ (s[k].toNat : Int)) = true := by rw [decide_eq_true_eq]; omega
          have b2 : decide ((s[k].toNat : Int) ≤ 126) = false := by rw [decide_eq_false_iff_not]; omega
          go_wp2_with fail
          refine (d1.out _).mono ?_; rintro e w5 ⟨rfl, rfl⟩
          rw [show ((s[k].toNat : Int) / 16).toNat = s[k].toNat / 16 from by omega]
          go_wp2_with fail
          refine (d2.out _).mono ?_; rintro e w5 ⟨rfl, rfl⟩
          rw [show ((s[k].toNat : Int) % 16).toNat = s[k].toNat % 16 from by omega]
          go_wp2_with (at_builtin; refine wpList_append_own _ rfl _ _ 33 rfl w.heap.size 5 i0 (.int .u8 0) 1 1 Try.underlying33 hi hz0 hz1 hz2 rfl (by decide) _ _ _ rfl (HO.out.alloc _) ⟨wr.heap.size, 0, none⟩ 3 3 [.int .u8 92, .int .u8 ((hexD (s[k].toNat / 16)).toNat : Int), .int .u8 ((hexD (s[k].toNat % 16)).toNat : Int)] rfl rfl ?x11 ?x21 ?x31 ?x41 ?x51 ?_)
          case x11 =>
            intro j u hj
            match j, hj with
            | 0, hj => simp at hj; subst hj; simp [Addr.add]
            | 1, hj => simp at hj; subst hj; simp [Addr.add]
            | 2, hj => simp at hj; subst hj; simp [Addr.add]
          case x21 => intro u hu; simp at hu; rcases hu with rfl | rfl | rfl <;> rfl
          case x31 => unfold maxLen; omega
          case x41 => omega
          case x51 => simp; omega
          intro v' w1 hown' hgrow _
          have ho1 := ownsB_of hown' (qcells_hex s k hlt HP.out)
          have hb1 := (HGk.out.alloc (by omega) (.cells #[.int .u8 92, .int .u8 ((hexD (s[k].toNat / 16)).toNat : Int), .int .u8 ((hexD (s[k].toNat % 16)).toNat : Int)] 5)).grown hgrow (by simp; omega) (fun q hq => (HO.out.lt q hq).1)
          have HO1 := Lib.hid ho1; have HB1 := Lib.hid hb1; clear hown' hb1 hgrow ho1
          go_wp2_with fail
          go_roundg (s.size - (k + 1))
          case measure => rw [HK.out]; omega
          case rel => exact ⟨k + 1, rfl, by omega, by go_num, HO1.out, HB1.out⟩
        · have b1 : decide ((32 : Int) ≤ (s[k].toNat : Int)) = true := by rw [decide_eq_true_eq]; omega
          have b2 : decide ((s[k].toNat : Int) ≤ 126) = true := by rw [decide_eq_true_eq]; omega
          have b3 : ((s[k].toNat : Int) != 34) = false := by rw [bne_eq_false_iff_eq]; omega
          go_wp2_with fail
          refine (d1.out _).mono ?_; rintro e w5 ⟨rfl, rfl⟩
          rw [show ((s[k].toNat : Int) / 16).toNat = s[k].toNat / 16 from by omega]
          go_wp2_with fail
          refine (d2.out _).mono ?_; rintro e w5 ⟨rfl, rfl⟩
          rw [show ((s[k].toNat : Int) % 16).toNat = s[k].toNat % 16 from by omega]
          go_wp2_with (at_builtin; refine wpList_append_own _ rfl _ _ 33 rfl w.heap.size 5 i0 (.int .u8 0) 1 1 Try.underlying33 hi hz0 hz1 hz2 rfl (by decide) _ _ _ rfl (HO.out.alloc _) ⟨wr.heap.size, 0, none⟩ 3 3 [.int .u8 92, .int .u8 ((hexD (s[k].toNat / 16)).toNat : Int), .int .u8 ((hexD (s[k].toNat % 16)).toNat : Int)] rfl rfl ?x12 ?x22 ?x32 ?x42 ?x52 ?_)
          case x12 =>
            intro j u hj
            match j, hj with
            | 0, hj => simp at hj; subst hj; simp [Addr.add]
            | 1, hj => simp at hj; subst hj; simp [Addr.add]
            | 2, hj => simp at hj; subst hj; simp [Addr.add]
          case x22 => intro u hu; simp at hu; rcases hu with rfl | rfl | rfl <;> rfl
          case x32 => unfold maxLen; omega
          case x42 => omega
          case x52 => simp; omega
          intro v' w1 hown' hgrow _
          have ho1 := ownsB_of hown' (qcells_hex s k hlt HP.out)
          have hb1 := (HGk.out.alloc (by omega) (.cells #[.int .u8 92, .int .u8 ((hexD (s[k].toNat / 16)).toNat : Int), .int .u8 ((hexD (s[k].toNat % 16)).toNat : Int)] 5)).grown hgrow (by simp; omega) (fun q hq => (HO.out.lt q hq).1)
          have HO1 := Lib.hid ho1; have HB1 := Lib.hid hb1; clear hown' hb1 hgrow ho1
          go_wp2_with fail
          go_roundg (s.size - (k + 1))
          case measure => rw [HK.out]; omega
          case rel => exact ⟨k + 1, rfl, by omega, by go_num, HO1.out, HB1.out⟩
        · have b1 : decide ((32 : Int) ≤ (s[k].toNat : Int)) = true := by rw [decide_eq_true_eq]; omega
          have b2 : decide ((s[k].toNat : Int) ≤ 126) = true := by rw [decide_eq_true_eq]; omega
          have b3 : ((s[k].toNat : Int) != 34) = true := by rw [bne_iff_ne]; omega
          have b4 : ((s[k].toNat : Int) != 92) = false := by rw [bne_eq_false_iff_eq]; omega
          go_wp2_with fail
          refine (d1.out _).mono ?_; rintro e w5 ⟨rfl, rfl⟩
          rw [show ((s[k].toNat : Int) / 16).toNat = s[k].toNat / 16 from by omega]
          go_wp2_with fail
          refine (d2.out _).mono ?_; rintro e w5 ⟨rfl, rfl⟩
          rw [show ((s[k].toNat : Int) % 16).toNat = s[k].toNat % 16 from by omega]
          go_wp2_with (at_builtin; refine wpList_append_own _ rfl _ _ 33 rfl w.heap.size 5 i0 (.int .u8 0) 1 1 Try.underlying33 hi hz0 hz1 hz2 rfl (by decide) _ _ _ rfl (HO.out.alloc _) ⟨wr.heap.size, 0, none⟩ 3 3 [.int .u8 92, .int .u8 ((hexD (s[k].toNat / 16)).toNat : Int), .int .u8 ((hexD (s[k].toNat % 16)).toNat : Int)] rfl rfl ?x13 ?x23 ?x33 ?x43 ?x53 ?_)
          case x13 =>
            intro j u hj
            match j, hj with
            | 0, hj => simp at hj; subst hj; simp [Addr.add]
            | 1, hj => simp at hj; subst hj; simp [Addr.add]
            | 2, hj => simp at hj; subst hj; simp [Addr.add]
          case x23 => intro u hu; simp at hu; rcases hu with rfl | rfl | rfl <;> rfl
          case x33 => unfold maxLen; omega
          case x43 => omega
          case x53 => simp; omega
          intro v' w1 hown' hgrow _
          have ho1 := ownsB_of hown' (qcells_hex s k hlt HP.out)
          have hb1 := (HGk.out.alloc (by omega) (.cells #[.int .u8 92, .int .u8 ((hexD (s[k].toNat / 16)).toNat : Int), .int .u8 ((hexD (s[k].toNat % 16)).toNat : Int)] 5)).grown hgrow (by simp; omega) (fun q hq => (HO.out.lt q hq).1)
          have HO1 := Lib.hid ho1; have HB1 := Lib.hid hb1; clear hown' hb1 hgrow ho1
          go_wp2_with fail
          go_roundg (s.size - (k + 1))
          case measure => rw [HK.out]; omega
          case rel => exact ⟨k + 1, rfl, by omega, by go_num, HO1.out, HB1.out⟩
    · have hks : s.data.toList.take k = s.data.toList := List.take_of_length_le (by rw [len_ba]; omega)
      have hz2' := HGk.out.size
      have ho := HO.out
      rw [hks] at ho
      have hln2 : (34 :: qAll s.data.toList).length ≤ 3 * s.size + 1 := by rw [hks] at hln; exact hln
      have HO2 := Lib.hid ho; clear ho hks
      go_wp2_with (at_builtin; refine wpList_append_own _ rfl _ _ 33 rfl w.heap.size 5 i0 (.int .u8 0) 1 1 Try.underlying33 hi hz0 hz1 hz2 rfl (by decide) _ _ _ rfl (HO2.out.alloc _) ⟨wr.heap.size, 0, none⟩ 1 1 [.int .u8 34] rfl rfl ?e1 ?e2 ?e3 ?e4 ?e5 ?_)
      case e1 =>
        intro j u hj
        match j, hj with
        | 0, hj => simp at hj; subst hj; simp [Addr.add]
      case e2 => intro u hu; simp at hu; subst hu; rfl
      case e3 => unfold maxLen; omega
      case e4 => omega
      case e5 => simp; omega
      intro v' w1 hown' hgrow _
      have ho1 : OwnsB w1 w.heap.size v' (quoteL s.data.toList) := ownsB_of hown' (by simp [quoteL, Lib.byteCells])
      have hb1 := (HGk.out.alloc (by omega) (.cells #[.int .u8 34] 5)).grown hgrow (by simp; omega) (fun q hq => (HO2.out.lt q hq).1)
      have hcv := run_string_of (bytes_of_owns ho1)
      have HB1 := Lib.hid hb1; clear hown' hb1 hgrow ho1
      go_wp2_with fail
      go_ret
      exact ⟨rfl, HB1.out⟩
end Go.Proofs.Ytffmkmhnhecmnaa
