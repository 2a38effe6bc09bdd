/- event.quote: bytes as they are shown. -/
import Derived.Test.YtffmkmhnhecmnaaBuilder
import Derived.Test.YtffmkmhnhecmnaaEvPlain
import Derived.Test.YtffmkmhnhecmnaaLater
import Derived.Test.YtffmkmhnhecmnaaShelf
import Derived.Deep.LoopGhost
import Derived.StillTailTactics
import Derived.BigGuardPart
import Derived.Lib.Strings
import Derived.Laws.BitsAllLaws
namespace Go.Proofs.Ytffmkmhnhecmnaa
open Go.RowKit
/-- a digit's byte out of the text of digits -/
theorem digit_at (n : Nat) (h : n < 16) (w : World) : (Instr.index 9 (.string ⟨#[48, 49, 50, 51, 52, 53, 54, 55, 56, 57, 97, 98, 99, 100, 101, 102]⟩) (.int .u8 (n : Int))).run Try.prog w = .ok (.int .u8 ((hexD n).toNat : Int)) w := by
  have hn : n = 0 ∨ n = 1 ∨ n = 2 ∨ n = 3 ∨ n = 4 ∨ n = 5 ∨ n = 6 ∨ n = 7 ∨ n = 8 ∨ n = 9 ∨ n = 10 ∨ n = 11 ∨ n = 12 ∨ n = 13 ∨ n = 14 ∨ n = 15 := by omega
  rcases hn with rfl | rfl | rfl | rfl | rfl | rfl | rfl | rfl | rfl | rfl | rfl | rfl | rfl | rfl | rfl | rfl
  all_goals (show _ = _; kernel_rfl)
theorem and15b (c : Nat) (h : c < 256) : bits BinOp.and IntKind.u8 (c : Int) 15 = (c : Int) % 16 := by
  rw [show (15 : Int) = ((15 : Nat) : Int) from rfl, u8_and_nat c 15 h (by omega), nat_mask4]; omega
theorem isB_alloc {T e : TypeId} {B b : Nat} {bs : List Value} {w : World} (h : Lib.IsBuilder T e B b bs w) (o : Obj) : Lib.IsBuilder T e B b bs (w.alloc o) := by
  rcases h with h | h
  · have hlt := h.lt
    obtain ⟨hB, v, hb, hown, hne⟩ := h
    exact Or.inl ⟨hB, v, (Lib.alloc_old w o b hlt).trans hb, hown.alloc _, hne⟩
  · have hlt := h.lt
    obtain ⟨hB, v, hb, hown, hne⟩ := h
    exact Or.inr ⟨hB, v, (Lib.alloc_old w o b hlt).trans hb, hown.alloc _, hne⟩
theorem isB_drew {T e : TypeId} {B b : Nat} {bs : List Value} {w : World} (h : Lib.IsBuilder T e B b bs w) : Lib.IsBuilder T e B b bs w.drew := by
  rcases h with h | h
  · exact Or.inl h.drew
  · exact Or.inr h.drew
theorem isB_lt {T e : TypeId} {B b : Nat} {bs : List Value} {w : World} (h : Lib.IsBuilder T e B b bs w) : b < w.heap.size := by
  rcases h with h | h
  · exact h.lt
  · exact h.lt
theorem len_ba (s : ByteArray) : s.data.toList.length = s.size := by rw [Array.length_toList]; rfl
theorem take_snoc8 (s : ByteArray) (k : Nat) (h : k < s.size) : s.data.toList.take (k + 1) = s.data.toList.take k ++ [s[k]] := by
  rw [List.take_succ_eq_append_getElem (by simpa using h)]; rfl
/-- what one byte more makes of the cells -/
theorem qcells_plain (s : ByteArray) (k : Nat) (h : k < s.size) (hp : plainB s[k] = true) :
    Lib.byteCells (34 :: qAll (s.data.toList.take k)) ++ [.int .u8 (s[k].toNat : Int)] = Lib.byteCells (34 :: qAll (s.data.toList.take (k + 1))) := by
  rw [take_snoc8 s k h, qAll_snoc]
  simp [Lib.byteCells, qB, hp]
theorem qcells_hex (s : ByteArray) (k : Nat) (h : k < s.size) (hp : ¬ plainB s[k] = true) :
    Lib.byteCells (34 :: qAll (s.data.toList.take k)) ++ [.int .u8 92, .int .u8 ((hexD (s[k].toNat / 16)).toNat : Int), .int .u8 ((hexD (s[k].toNat % 16)).toNat : Int)] = Lib.byteCells (34 :: qAll (s.data.toList.take (k + 1))) := by
  rw [take_snoc8 s k h, qAll_snoc]
  simp [Lib.byteCells, qB, hp]
theorem qcells_len (s : ByteArray) (k : Nat) : (Lib.byteCells (34 :: qAll (s.data.toList.take k))).length ≤ 3 * s.size + 1 := by
  have h1 := qAll_len (s.data.toList.take k)
  have h2 : (s.data.toList.take k).length ≤ s.size := by rw [List.length_take, len_ba]; omega
  simp only [Lib.byteCells, List.length_map, List.length_cons]
  omega
set_option maxRecDepth 100000 in
set_option maxHeartbeats 800000 in
theorem quote_any (s : ByteArray) (w : World) (hs : s.size ≤ 1000000) :
    Calls Try.prog 28 #[.string s] w fun e w' => e = .returned (.string ⟨(quoteL s.data.toList).toArray⟩) ∧ Below w.heap.size w w' := by
  go_enter Try.func28, Try.ntmps28
  go_wp2_with fail
  refine (sbWriteByte w.heap.size w.heap.size [] 34 _ (Lib.fresh_isBuilder _ _ w) (by simp) (by simp)).mono ?_
  rintro e w1 ⟨rfl, hb, hg⟩
  have HB := Lib.hid hb; have HG := Lib.hid hg; clear hb hg
  go_wp2_with fail
  go_loopg [9] s.size (fun g i wr => ∃ k : Nat, g = s.size - k ∧ k ≤ s.size ∧ i = .int .i64 k ∧ Lib.IsBuilder 51 5 w.heap.size w.heap.size (Lib.byteCells (34 :: qAll (s.data.toList.take k))) wr ∧ Below w.heap.size w wr)
  case atStart => exact ⟨0, by omega, by omega, rfl, by simpa [Lib.byteCells, qAll] using HB.out, ((Below.refl _ _).alloc (Nat.le_refl _) _).trans HG.out⟩
  case round =>
    obtain ⟨k, hgk, hk, rfl, hb, hg⟩ := hrel
    have HBk := Lib.hid hb; have HGk := Lib.hid hg; have HK := Lib.hid hgk; clear hb hg hgk
    by_cases hlt : k < s.size
    · have hcb : s[k].toNat < 256 := s[k].toNat_lt
      by_cases hp : plainB s[k] = true
      · have hp' : 32 ≤ s[k].toNat ∧ s[k].toNat ≤ 126 ∧ s[k].toNat ≠ 34 ∧ s[k].toNat ≠ 92 := by unfold plainB at hp; exact of_decide_eq_true hp
        obtain ⟨p1, p2, p3, p4⟩ := hp'
        have b1 : decide ((32 : Int) ≤ (s[k].toNat : Int)) = true := by rw [decide_eq_true_eq]; omega
        have b2 : decide ((s[k].toNat : Int) ≤ 126) = true := by rw [decide_eq_true_eq]; omega
        have b3 : ((s[k].toNat : Int) != 34) = true := by rw [bne_iff_ne]; omega
        have b4 : ((s[k].toNat : Int) != 92) = true := by rw [bne_iff_ne]; omega
        have HP := Lib.hid hp; clear hp p3 p4
        have hz2 := HGk.out.size
        go_wp2_with fail
        refine (sbWriteByte w.heap.size w.heap.size _ _ _ HBk.out (by have := qcells_len s k; omega) (by omega)).mono ?_
        rintro e w3 ⟨rfl, hb3, hg3⟩
        rw [qcells_plain s k hlt HP.out] at hb3
        have HB3 := Lib.hid hb3; have HG3 := Lib.hid hg3; clear hb3 hg3
        go_wp2_with fail
        go_roundg (s.size - (k + 1))
        case measure => rw [HK.out]; omega
        case rel => exact ⟨k + 1, rfl, by omega, by go_num, HB3.out, HGk.out.trans (HG3.out)⟩
      · have hp' : ¬ (32 ≤ s[k].toNat ∧ s[k].toNat ≤ 126 ∧ s[k].toNat ≠ 34 ∧ s[k].toNat ≠ 92) := fun h => hp (by unfold plainB; exact decide_eq_true h)
        have hcase : s[k].toNat < 32 ∨ 126 < s[k].toNat ∨ (34 ≤ s[k].toNat ∧ s[k].toNat ≤ 34) ∨ (92 ≤ s[k].toNat ∧ s[k].toNat ≤ 92) := by omega
        have HP := Lib.hid hp; clear hp hp'
        have d1 : ∀ W, (Instr.index 9 (.string ⟨#[48, 49, 50, 51, 52, 53, 54, 55, 56, 57, 97, 98, 99, 100, 101, 102]⟩) (.int .u8 ((s[k].toNat : Int) / 16))).run Try.prog W = .ok (.int .u8 ((hexD (s[k].toNat / 16)).toNat : Int)) W := digit_at (s[k].toNat / 16) (by omega)
        have d2 : ∀ W, (Instr.index 9 (.string ⟨#[48, 49, 50, 51, 52, 53, 54, 55, 56, 57, 97, 98, 99, 100, 101, 102]⟩) (.int .u8 ((s[k].toNat : Int) % 16))).run Try.prog W = .ok (.int .u8 ((hexD (s[k].toNat % 16)).toNat : Int)) W := digit_at (s[k].toNat % 16) (by omega)
        have d3 := and15b s[k].toNat hcb
        rcases hcase with h | h | ⟨h, h'⟩ | ⟨h, h'⟩
        · go_wp2_with fail
          go_still_tail 6, (by kernel_rfl)
          change wpList _ _ _ _ _ wr.drew
          generalize hwd : wr.drew = w2
          have hb2 : Lib.IsBuilder 51 5 w.heap.size w.heap.size (Lib.byteCells (34 :: qAll (s.data.toList.take k))) w2 := by rw [← hwd]; exact isB_drew HBk.out
          have hg2 : Below w.heap.size w w2 := by rw [← hwd]; exact HGk.out.drew
          clear hwd
          have hlb := isB_lt hb2
          have hz2 := hg2.size
          have HB2 := Lib.hid hb2; have HG2 := Lib.hid hg2; clear hb2 hg2
          go_wp2_with fail
          refine (sbWrite w.heap.size w.heap.size _ [.int .u8 92, .int .u8 ((hexD (s[k].toNat / 16)).toNat : Int), .int .u8 ((hexD (s[k].toNat % 16)).toNat : Int)] ⟨w2.heap.size, 0, none⟩ 3 _ (isB_alloc HB2.out _) (by have := qcells_len s k; simp; omega) (by simp; omega) ?_ ?_ ?_).mono ?_
          · intro j u hj
            match j, hj with
            | 0, hj => simp at hj; subst hj; simp [Addr.add]
            | 1, hj => simp at hj; subst hj; simp [Addr.add]
            | 2, hj => simp at hj; subst hj; simp [Addr.add]
          · intro u hu; simp at hu; rcases hu with rfl | rfl | rfl <;> rfl
          · show w2.heap.size ≠ w.heap.size; omega
          · rintro e w3 ⟨rfl, hb3, hg3⟩
            rw [qcells_hex s k hlt HP.out] at hb3
            have HB3 := Lib.hid hb3; have HG3 := Lib.hid hg3; clear hb3 hg3 d1 d2 d3
            go_wp2_with fail
            go_roundg (s.size - (k + 1))
            case measure => rw [HK.out]; omega
            case rel => exact ⟨k + 1, rfl, by omega, by go_num, HB3.out, (HG2.out.alloc (by omega) _).trans (HG3.out.mono (by omega))⟩
        · have b1 : decide ((32 : Int) ≤ (s[k].toNat : Int)) = true := by rw [decide_eq_true_eq]; omega
          have b2 : decide ((s[k].toNat : Int) ≤ 126) = false := by rw [decide_eq_false_iff_not]; omega
          go_wp2_with fail
          go_still_tail 6, (by kernel_rfl)
          change wpList _ _ _ _ _ wr.drew
          generalize hwd : wr.drew = w2
          have hb2 : Lib.IsBuilder 51 5 w.heap.size w.heap.size (Lib.byteCells (34 :: qAll (s.data.toList.take k))) w2 := by rw [← hwd]; exact isB_drew HBk.out
          have hg2 : Below w.heap.size w w2 := by rw [← hwd]; exact HGk.out.drew
          clear hwd
          have hlb := isB_lt hb2
          have hz2 := hg2.size
          have HB2 := Lib.hid hb2; have HG2 := Lib.hid hg2; clear hb2 hg2
          go_wp2_with fail
          refine (sbWrite w.heap.size w.heap.size _ [.int .u8 92, .int .u8 ((hexD (s[k].toNat / 16)).toNat : Int), .int .u8 ((hexD (s[k].toNat % 16)).toNat : Int)] ⟨w2.heap.size, 0, none⟩ 3 _ (isB_alloc HB2.out _) (by have := qcells_len s k; simp; omega) (by simp; omega) ?_ ?_ ?_).mono ?_
          · intro j u hj
            match j, hj with
            | 0, hj => simp at hj; subst hj; simp [Addr.add]
            | 1, hj => simp at hj; subst hj; simp [Addr.add]
            | 2, hj => simp at hj; subst hj; simp [Addr.add]
          · intro u hu; simp at hu; rcases hu with rfl | rfl | rfl <;> rfl
          · show w2.heap.size ≠ w.heap.size; omega
          · rintro e w3 ⟨rfl, hb3, hg3⟩
            rw [qcells_hex s k hlt HP.out] at hb3
            have HB3 := Lib.hid hb3; have HG3 := Lib.hid hg3; clear hb3 hg3 d1 d2 d3
            go_wp2_with fail
            go_roundg (s.size - (k + 1))
            case measure => rw [HK.out]; omega
            case rel => exact ⟨k + 1, rfl, by omega, by go_num, HB3.out, (HG2.out.alloc (by omega) _).trans (HG3.out.mono (by omega))⟩
        · have b1 : decide ((32 : Int) ≤ (s[k].toNat : Int)) = true := by rw [decide_eq_true_eq]; omega
          have b2 : decide ((s[k].toNat : Int) ≤ 126) = true := by rw [decide_eq_true_eq]; omega
          have b3 : ((s[k].toNat : Int) != 34) = false := by rw [bne_eq_false_iff_eq]; omega
          go_wp2_with fail
          go_still_tail 6, (by kernel_rfl)
          change wpList _ _ _ _ _ wr.drew
          generalize hwd : wr.drew = w2
          have hb2 : Lib.IsBuilder 51 5 w.heap.size w.heap.size (Lib.byteCells (34 :: qAll (s.data.toList.take k))) w2 := by rw [← hwd]; exact isB_drew HBk.out
          have hg2 : Below w.heap.size w w2 := by rw [← hwd]; exact HGk.out.drew
          clear hwd
          have hlb := isB_lt hb2
          have hz2 := hg2.size
          have HB2 := Lib.hid hb2; have HG2 := Lib.hid hg2; clear hb2 hg2
          go_wp2_with fail
          refine (sbWrite w.heap.size w.heap.size _ [.int .u8 92, .int .u8 ((hexD (s[k].toNat / 16)).toNat : Int), .int .u8 ((hexD (s[k].toNat % 16)).toNat : Int)] ⟨w2.heap.size, 0, none⟩ 3 _ (isB_alloc HB2.out _) (by have := qcells_len s k; simp; omega) (by simp; omega) ?_ ?_ ?_).mono ?_
          · intro j u hj
            match j, hj with
            | 0, hj => simp at hj; subst hj; simp [Addr.add]
            | 1, hj => simp at hj; subst hj; simp [Addr.add]
            | 2, hj => simp at hj; subst hj; simp [Addr.add]
          · intro u hu; simp at hu; rcases hu with rfl | rfl | rfl <;> rfl
          · show w2.heap.size ≠ w.heap.size; omega
          · rintro e w3 ⟨rfl, hb3, hg3⟩
            rw [qcells_hex s k hlt HP.out] at hb3
            have HB3 := Lib.hid hb3; have HG3 := Lib.hid hg3; clear hb3 hg3 d1 d2 d3
            go_wp2_with fail
            go_roundg (s.size - (k + 1))
            case measure => rw [HK.out]; omega
            case rel => exact ⟨k + 1, rfl, by omega, by go_num, HB3.out, (HG2.out.alloc (by omega) _).trans (HG3.out.mono (by omega))⟩
        · have b1 : decide ((32 : Int) ≤ (s[k].toNat : Int)) = true := by rw [decide_eq_true_eq]; omega
          have b2 : decide ((s[k].toNat : Int) ≤ 126) = true := by rw [decide_eq_true_eq]; omega
          have b3 : ((s[k].toNat : Int) != 34) = true := by rw [bne_iff_ne]; omega
          have b4 : ((s[k].toNat : Int) != 92) = false := by rw [bne_eq_false_iff_eq]; omega
          go_wp2_with fail
          go_still_tail 6, (by kernel_rfl)
          change wpList _ _ _ _ _ wr.drew
          generalize hwd : wr.drew = w2
          have hb2 : Lib.IsBuilder 51 5 w.heap.size w.heap.size (Lib.byteCells (34 :: qAll (s.data.toList.take k))) w2 := by rw [← hwd]; exact isB_drew HBk.out
          have hg2 : Below w.heap.size w w2 := by rw [← hwd]; exact HGk.out.drew
          clear hwd
          have hlb := isB_lt hb2
          have hz2 := hg2.size
          have HB2 := Lib.hid hb2; have HG2 := Lib.hid hg2; clear hb2 hg2
          go_wp2_with fail
          refine (sbWrite w.heap.size w.heap.size _ [.int .u8 92, .int .u8 ((hexD (s[k].toNat / 16)).toNat : Int), .int .u8 ((hexD (s[k].toNat % 16)).toNat : Int)] ⟨w2.heap.size, 0, none⟩ 3 _ (isB_alloc HB2.out _) (by have := qcells_len s k; simp; omega) (by simp; omega) ?_ ?_ ?_).mono ?_
          · intro j u hj
            match j, hj with
            | 0, hj => simp at hj; subst hj; simp [Addr.add]
            | 1, hj => simp at hj; subst hj; simp [Addr.add]
            | 2, hj => simp at hj; subst hj; simp [Addr.add]
          · intro u hu; simp at hu; rcases hu with rfl | rfl | rfl <;> rfl
          · show w2.heap.size ≠ w.heap.size; omega
          · rintro e w3 ⟨rfl, hb3, hg3⟩
            rw [qcells_hex s k hlt HP.out] at hb3
            have HB3 := Lib.hid hb3; have HG3 := Lib.hid hg3; clear hb3 hg3 d1 d2 d3
            go_wp2_with fail
            go_roundg (s.size - (k + 1))
            case measure => rw [HK.out]; omega
            case rel => exact ⟨k + 1, rfl, by omega, by go_num, HB3.out, (HG2.out.alloc (by omega) _).trans (HG3.out.mono (by omega))⟩
    · have hks : s.data.toList.take k = s.data.toList := List.take_of_length_le (by rw [len_ba]; omega)
      have hb := HBk.out
      have hz2 := HGk.out.size
      rw [hks] at hb
      have HB2 := Lib.hid hb; clear hb hks
      go_wp2_with fail
      refine (sbWriteByte w.heap.size w.heap.size _ _ _ HB2.out (by have := qcells_len s s.size; rw [List.take_of_length_le (by rw [len_ba]; omega)] at this; omega) (by omega)).mono ?_
      rintro e w3 ⟨rfl, hb3, hg3⟩
      have hz3 := hg3.size
      have hb4 : Lib.IsBuilder 51 5 w.heap.size w.heap.size (Lib.byteCells (quoteL s.data.toList)) w3 := by
        have e : Lib.byteCells (quoteL s.data.toList) = Lib.byteCells (34 :: qAll s.data.toList) ++ [.int .u8 34] := by simp [quoteL, Lib.byteCells]
        rw [e]; exact hb3
      have HB4 := Lib.hid hb4; have HG3 := Lib.hid hg3; clear hb3 hg3 hb4
      go_wp2_with fail
      refine (Try.Builder_String_any w.heap.size w.heap.size _ _ HB4.out (by omega)).mono ?_
      rintro e w4 ⟨rfl, hg4⟩
      have HG4 := Lib.hid hg4; clear hg4
      go_wp2_with fail
      go_ret
      exact ⟨rfl, (HGk.out.trans HG3.out).trans HG4.out⟩
end Go.Proofs.Ytffmkmhnhecmnaa
