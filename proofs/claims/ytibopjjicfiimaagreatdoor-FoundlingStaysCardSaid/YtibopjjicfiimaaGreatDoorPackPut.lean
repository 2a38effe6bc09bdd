/- A number's lowest bytes behind others. -/
import Derived.Test.YtibopjjicfiimaaGreatDoorRefHeap
import Derived.Test.YtibopjjicfiimaaGreatDoorShelf
import Derived.Laws.CopyOwn
namespace Go.Proofs.YtibopjjicfiimaaGreatDoor
open Go.RowKit
def leBytes (x : Nat) : Nat → List UInt8
  | 0 => []
  | k + 1 => leBytes x k ++ [UInt8.ofNat (x / 256 ^ k % 256)]
theorem leBytes_len (x k : Nat) : (leBytes x k).length = k := by
  induction k with
  | zero => rfl
  | succ k ih => simp [leBytes, ih]
def clip8 (n : Int) : Nat := (max 0 (min n 8)).toNat
theorem clone_any (v : Value) (l : List UInt8) (w : World) (h : BytesAt w v l) (hl : l.length ≤ 1000000) :
    Calls Tryz.prog 80 #[v] w fun e w' => ∃ v', e = .returned v' ∧ OwnsB w' w.heap.size v' l ∧ Below w.heap.size w w' := by
  obtain ⟨a, cap, rfl, h1, h2, h3, h5⟩ := h
  cases a with
  | none =>
    have hl0 : l = [] := by have := h3.none_nil; simpa [Lib.byteCells] using this
    subst hl0
    refine (Tryz.bytes_Clone_nil _ cap w).mono ?_
    rintro e w1 ⟨rfl, rfl⟩
    exact ⟨_, rfl, World.ownsRow_nil _ _ _ _, Below.refl _ _⟩
  | some ad =>
    have h4 := h3.add
    refine (Tryz.bytes_Clone_at ad l.length cap (l.map fun b => (b.toNat : Int)) w (by simp) (by omega) (fun i hi => ?_)).mono ?_
    · exact h4 i _ (by simp [Lib.byteCells, hi])
    · rintro e w1 ⟨v', rfl, ho, -, hb⟩
      exact ⟨v', rfl, ownsB_of ho (by rw [List.map_map]; rfl), hb⟩
set_option maxRecDepth 100000 in
theorem put_any (v : Value) (l : List UInt8) (x : Nat) (n : Int) (w : World) (h : BytesAt w v l) (hl : l.length ≤ 100000) :
    Calls Tryz.prog 40 #[v, .int .u64 (x : Int), .int .i64 n] w fun e w' => ∃ v', e = .returned v' ∧ OwnsB w' w.heap.size v' (l ++ leBytes x (clip8 n)) ∧ Below w.heap.size w w' := by
  obtain ⟨i0, hi, hz0, hz1, hz2⟩ := info_parts byteInfo
  have H := Lib.hid h
  obtain ⟨a, cap, rfl, h1, h2, -, -⟩ := h
  by_cases n8 : 8 ≤ n
  · have hc : clip8 n = 8 := by unfold clip8; omega
    rw [hc]; clear hc
    go_enter Tryz.func40, Tryz.ntmps40
    go_wp2_with fail
    refine (clone_any _ l _ H.out (by omega)).mono ?_
    rintro e w1 ⟨v1, rfl, ho, hg⟩
    have HO := Lib.hid ho; have HG := Lib.hid hg; clear ho hg
    go_wp2_with fail
    go_loopg [1, 7, 13] 8 (fun g y o i wr => ∃ k : Nat, g = 8 - k ∧ k ≤ 8 ∧ i = .int .i64 k ∧ y = .int .u64 ((x / 256 ^ k : Nat) : Int) ∧ OwnsB wr w.heap.size o (l ++ leBytes x k) ∧ Below w.heap.size w wr)
    case atStart => exact ⟨0, rfl, by omega, rfl, by simp, by simpa [leBytes] using HO.out, HG.out⟩
    case round =>
      obtain ⟨k, hgk, hk, rfl, rfl, hb, hg⟩ := hrel
      have HBk := Lib.hid hb; have HGk := Lib.hid hg; have HK := Lib.hid hgk; clear hb hg hgk
      by_cases hlt : k < 8
      · have hll : (l ++ leBytes x k).length = l.length + k := by rw [List.length_append, leBytes_len]
        have hd : x / 256 ^ (k + 1) = x / 256 ^ k / 256 := by rw [Nat.pow_succ, Nat.div_div_eq_div_mul]
        have hyx : x / 256 ^ k ≤ x := Nat.div_le_self _ _
        have HD := Lib.hid hd
        have HS := Lib.hid (show leBytes x (k + 1) = leBytes x k ++ [UInt8.ofNat (x / 256 ^ k % 256)] from rfl)
        clear hd
        generalize x / 256 ^ k = y at *
        have hwl := HGk.out.size
        go_wp2_with (at_builtin; refine wpList_append_own _ rfl _ _ 43 rfl w.heap.size 5 i0 (.int .u8 0) 1 1 Tryz.underlying43 hi hz0 hz1 hz2 rfl (by decide) _ _ _ rfl (HBk.out.alloc _) ⟨wr.heap.size, 0, none⟩ 1 1 [.int .u8 ((y : Int) % 256)] rfl rfl ?c1 ?c2 ?c3 ?c4 ?c5 ?_)
        case c1 =>
          intro j u hj
          match j, hj with
          | 0, hj => simp at hj; subst hj; simp [Addr.add]
        case c2 => intro u hu; simp at hu; subst hu; rfl
        case c3 => rw [hll]; unfold maxLen; omega
        case c4 => rw [hll]; omega
        case c5 => simp; omega
        intro v' w2 hown' hgrow _
        have ho1 : OwnsB w2 w.heap.size v' (l ++ leBytes x (k + 1)) := ownsB_of hown' (by
          rw [HS.out, ← List.append_assoc, Lib.byteCells_append]
          congr 1
          simp [Lib.byteCells])
        have hb1 : Below w.heap.size w w2 := by
          refine Below.grown ?_ hgrow ?_ (fun q hq => (HBk.out.lt q hq).1)
          · repeat (first | with_reducible exact Below.refl _ _ | ((with_reducible refine Below.setCell ?_ ?_ _); rotate_left; focus (first | (simp; done) | (simp; omega) | omega)) | ((with_reducible refine Below.alloc ?_ ?_ _); rotate_left; focus (first | (simp; done) | (simp; omega) | omega)) | (with_reducible refine Below.drew ?_) | ((with_reducible refine Below.trans ?_ (Below.mono HGk.out ?_)); rotate_left; focus (first | (simp; done) | (simp; omega) | omega)))
          · simp; omega
        have HO2 := Lib.hid ho1; have HB2 := Lib.hid hb1; clear hown' hgrow ho1 hb1
        go_wp2_with fail
        go_roundg (8 - (k + 1))
        case measure => rw [HK.out]; omega
        case rel => exact ⟨k + 1, rfl, by omega, by go_num, by rw [HD.out]; congr 1, HO2.out, HB2.out⟩
      · obtain rfl : k = 8 := by omega
        go_wp2_with fail
        go_ret
        exact ⟨_, rfl, HBk.out, HGk.out⟩
  · by_cases n0 : 0 ≤ n
    · obtain ⟨c, rfl⟩ := Int.eq_ofNat_of_zero_le n0
      have hc : clip8 c = c := by unfold clip8; omega
      rw [hc]; clear hc n0
      have hc8 : c < 8 := by omega
      clear n8
      go_enter Tryz.func40, Tryz.ntmps40
      go_wp2_with fail
      refine (clone_any _ l _ H.out (by omega)).mono ?_
      rintro e w1 ⟨v1, rfl, ho, hg⟩
      have HO := Lib.hid ho; have HG := Lib.hid hg; clear ho hg
      go_wp2_with fail
      go_loopg [1, 7, 13] c (fun g y o i wr => ∃ k : Nat, g = c - k ∧ k ≤ c ∧ i = .int .i64 k ∧ y = .int .u64 ((x / 256 ^ k : Nat) : Int) ∧ OwnsB wr w.heap.size o (l ++ leBytes x k) ∧ Below w.heap.size w wr)
      case atStart => exact ⟨0, rfl, by omega, rfl, by simp, by simpa [leBytes] using HO.out, HG.out⟩
      case round =>
        obtain ⟨k, hgk, hk, rfl, rfl, hb, hg⟩ := hrel
        have HBk := Lib.hid hb; have HGk := Lib.hid hg; have HK := Lib.hid hgk; clear hb hg hgk
        by_cases hlt : k < c
        · have hll : (l ++ leBytes x k).length = l.length + k := by rw [List.length_append, leBytes_len]
          have hd : x / 256 ^ (k + 1) = x / 256 ^ k / 256 := by rw [Nat.pow_succ, Nat.div_div_eq_div_mul]
          have hyx : x / 256 ^ k ≤ x := Nat.div_le_self _ _
          have HD := Lib.hid hd
          have HS := Lib.hid (show leBytes x (k + 1) = leBytes x k ++ [UInt8.ofNat (x / 256 ^ k % 256)] from rfl)
          clear hd
          generalize x / 256 ^ k = y at *
          have hwl := HGk.out.size
          go_wp2_with (at_builtin; refine wpList_append_own _ rfl _ _ 43 rfl w.heap.size 5 i0 (.int .u8 0) 1 1 Tryz.underlying43 hi hz0 hz1 hz2 rfl (by decide) _ _ _ rfl (HBk.out.alloc _) ⟨wr.heap.size, 0, none⟩ 1 1 [.int .u8 ((y : Int) % 256)] rfl rfl ?c1 ?c2 ?c3 ?c4 ?c5 ?_)
          case c1 =>
            intro j u hj
            match j, hj with
            | 0, hj => simp at hj; subst hj; simp [Addr.add]
          case c2 => intro u hu; simp at hu; subst hu; rfl
          case c3 => rw [hll]; unfold maxLen; omega
          case c4 => rw [hll]; omega
          case c5 => simp; omega
          intro v' w2 hown' hgrow _
          have ho1 : OwnsB w2 w.heap.size v' (l ++ leBytes x (k + 1)) := ownsB_of hown' (by
            rw [HS.out, ← List.append_assoc, Lib.byteCells_append]
            congr 1
            simp [Lib.byteCells])
          have hb1 : Below w.heap.size w w2 := by
            refine Below.grown ?_ hgrow ?_ (fun q hq => (HBk.out.lt q hq).1)
            · repeat (first | with_reducible exact Below.refl _ _ | ((with_reducible refine Below.setCell ?_ ?_ _); rotate_left; focus (first | (simp; done) | (simp; omega) | omega)) | ((with_reducible refine Below.alloc ?_ ?_ _); rotate_left; focus (first | (simp; done) | (simp; omega) | omega)) | (with_reducible refine Below.drew ?_) | ((with_reducible refine Below.trans ?_ (Below.mono HGk.out ?_)); rotate_left; focus (first | (simp; done) | (simp; omega) | omega)))
            · simp; omega
          have HO2 := Lib.hid ho1; have HB2 := Lib.hid hb1; clear hown' hgrow ho1 hb1
          go_wp2_with fail
          go_roundg (c - (k + 1))
          case measure => rw [HK.out]; omega
          case rel => exact ⟨k + 1, rfl, by omega, by go_num, by rw [HD.out]; congr 1, HO2.out, HB2.out⟩
        · obtain rfl : k = c := by omega
          go_wp2_with fail
          go_ret
          exact ⟨_, rfl, HBk.out, HGk.out⟩
    · have hc : clip8 n = 0 := by unfold clip8; omega
      rw [hc]; clear hc
      go_enter Tryz.func40, Tryz.ntmps40
      go_wp2_with fail
      refine (clone_any _ l _ H.out (by omega)).mono ?_
      rintro e w1 ⟨v1, rfl, ho, hg⟩
      have HO := Lib.hid ho; have HG := Lib.hid hg; clear ho hg
      go_wp2_with fail
      go_loopg [1, 7, 13] 0 (fun g y o i wr => ∃ k : Nat, g = 0 - k ∧ k ≤ 0 ∧ i = .int .i64 k ∧ y = .int .u64 ((x / 256 ^ k : Nat) : Int) ∧ OwnsB wr w.heap.size o (l ++ leBytes x k) ∧ Below w.heap.size w wr)
      case atStart => exact ⟨0, rfl, by omega, rfl, by simp, by simpa [leBytes] using HO.out, HG.out⟩
      case round =>
        obtain ⟨k, hgk, hk, rfl, rfl, hb, hg⟩ := hrel
        have HBk := Lib.hid hb; have HGk := Lib.hid hg; have HK := Lib.hid hgk; clear hb hg hgk
        by_cases hlt : k < 0
        · exact absurd hlt (by omega)
        · obtain rfl : k = 0 := by omega
          go_wp2_with fail
          go_ret
          exact ⟨_, rfl, HBk.out, HGk.out⟩
end Go.Proofs.YtibopjjicfiimaaGreatDoor
