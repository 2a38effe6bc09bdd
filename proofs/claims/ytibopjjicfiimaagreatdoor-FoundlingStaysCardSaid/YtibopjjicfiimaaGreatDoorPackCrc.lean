/- The checksum: the program's and the document's. -/
import Derived.Test.YtibopjjicfiimaaGreatDoorBits
import Derived.Test.YtibopjjicfiimaaGreatDoorPackCount
import Derived.Test.YtibopjjicfiimaaGreatDoorMem
import Derived.WalkKit
import Derived.WalkSpells
import Derived.Lib.Hide
import Derived.BigQuiet
import Derived.Deep.LoopGhost
import Derived.BigGuardPart
import Derived.Laws.BitsAllLaws
import Derived.Lib.Strings
namespace Go.Proofs.YtibopjjicfiimaaGreatDoor
open Go.RowKit
def cstepN : Nat → Nat → Nat
  | 0, x => x
  | k + 1, x => cstep (cstepN k x)
theorem cstepN_lt {k x : Nat} (h : x < 4294967296) : cstepN k x < 4294967296 := by
  induction k with
  | zero => exact h
  | succ k ih => exact cstep_lt ih
theorem cstepN8 (x : Nat) : cstepN 8 x = cstep8 x := rfl
theorem and1_32 (x : Nat) (h : x < 4294967296) : bits BinOp.and IntKind.u32 (x : Int) 1 = ((x % 2 : Nat) : Int) := by
  rw [show (1 : Int) = ((1 : Nat) : Int) from rfl, u32_and_nat x 1 h (by omega), Nat.and_one_is_mod]
theorem xorP (x : Nat) (h : x < 4294967296) : bits BinOp.xor IntKind.u32 (x : Int) 3988292384 = ((x ^^^ 3988292384 : Nat) : Int) := by
  rw [show (3988292384 : Int) = ((3988292384 : Nat) : Int) from rfl, u32_xor_nat x 3988292384 h (by omega)]
theorem andP : bits BinOp.and IntKind.u32 3988292384 4294967295 = 3988292384 := by
  rw [show (3988292384 : Int) = ((3988292384 : Nat) : Int) from rfl, show (4294967295 : Int) = ((4294967295 : Nat) : Int) from rfl, u32_and_nat _ _ (by omega) (by omega)]; decide
theorem and0 : bits BinOp.and IntKind.u32 3988292384 0 = 0 := by
  rw [show (3988292384 : Int) = ((3988292384 : Nat) : Int) from rfl, show (0 : Int) = ((0 : Nat) : Int) from rfl, u32_and_nat _ _ (by omega) (by omega)]; decide
theorem xor0 (x : Nat) (h : x < 4294967296) : bits BinOp.xor IntKind.u32 (x : Int) 0 = (x : Int) := by
  rw [show (0 : Int) = ((0 : Nat) : Int) from rfl, u32_xor_nat x 0 h (by omega), Nat.xor_zero]
set_option maxRecDepth 100000 in
theorem step_any (c : Nat) (hc : c < 256) (w : World) : Calls Tryz.prog 101 #[.int .u8 (c : Int)] w fun e w' => e = .returned (.int .u32 ((cstep8 c : Nat) : Int)) ∧ w' = w := by
  go_enter Tryz.func101, Tryz.ntmps101
  go_wp2_with fail
  go_loopg [3, 6] 8 (fun g x i wr => ∃ k : Nat, g = 8 - k ∧ k ≤ 8 ∧ i = .int .i64 k ∧ x = .int .u32 ((cstepN k c : Nat) : Int) ∧ wr = w)
  case atStart => exact ⟨0, rfl, by omega, rfl, rfl, rfl⟩
  case round =>
    obtain ⟨k, hgk, hk, rfl, rfl, rfl⟩ := hrel
    have HK := Lib.hid hgk; clear hgk
    have hx : cstepN k c < 4294967296 := cstepN_lt (by omega)
    by_cases hlt : k < 8
    · have HS := Lib.hid (show cstepN (k + 1) c = cstep (cstepN k c) from rfl)
      generalize cstepN k c = x at *
      have a1 := and1_32 x hx
      have a2 := andP
      have a3 := and0
      rcases Nat.mod_two_eq_zero_or_one x with hp | hp
      · rw [hp] at a1
        have a4 : bits BinOp.xor IntKind.u32 ((x : Int) / 2) 0 = ((x / 2 : Nat) : Int) := by rw [show ((x : Int) / 2) = ((x / 2 : Nat) : Int) by omega]; exact xor0 (x / 2) (by omega)
        have HP := Lib.hid hp; clear hp
        go_wp2_with fail
        go_roundg (8 - (k + 1))
        case measure => rw [HK.out]; omega
        case rel => exact ⟨k + 1, rfl, by omega, by go_num, by rw [HS.out]; unfold cstep; rw [if_neg (by have := HP.out; omega)]; congr 1, rfl⟩
      · rw [hp] at a1
        have a4 : bits BinOp.xor IntKind.u32 ((x : Int) / 2) 3988292384 = ((x / 2 ^^^ 3988292384 : Nat) : Int) := by rw [show ((x : Int) / 2) = ((x / 2 : Nat) : Int) by omega]; exact xorP (x / 2) (by omega)
        have HP := Lib.hid hp; clear hp
        go_wp2_with fail
        go_roundg (8 - (k + 1))
        case measure => rw [HK.out]; omega
        case rel => exact ⟨k + 1, rfl, by omega, by go_num, by rw [HS.out]; unfold cstep; rw [if_pos HP.out], rfl⟩
    · obtain rfl : k = 8 := by omega
      go_wp2_with fail
      go_ret
      exact ⟨rfl, rfl⟩
/-- bytes as numbers -/
def nats (l : List UInt8) : List Nat := l.map UInt8.toNat
theorem nats_lt {l : List UInt8} : ∀ c ∈ nats l, c < 256 := by
  intro c hc
  obtain ⟨b, -, rfl⟩ := List.mem_map.1 hc
  exact b.toNat_lt
theorem nats_snoc (l : List UInt8) (k : Nat) (h : k < l.length) : nats (l.take (k + 1)) = nats (l.take k) ++ [l[k].toNat] := by
  rw [nats, nats, List.take_succ_eq_append_getElem h, List.map_append]; rfl
theorem BytesAt.get {w : World} {v : Value} {l : List UInt8} (h : BytesAt w v l) : ∃ a cap, v = .slice a l.length cap ∧ l.length ≤ cap ∧ cap ≤ maxLen ∧
    ∀ k (hk : k < l.length), ∃ b o, a = some ⟨b, o, none⟩ ∧ b < w.heap.size ∧ w.cell? ⟨b, o + k, none⟩ = some (.int .u8 (l[k].toNat : Int)) := by
  obtain ⟨a, cap, hv, h1, h2, h3, h4⟩ := h
  refine ⟨a, cap, hv, h1, h2, fun k hk => ?_⟩
  rcases h3 with h3 | ⟨b, o, ha, hc⟩
  · have : l = [] := by simpa [Lib.byteCells] using h3
    subst this; simp at hk
  · have e := hc k (by rw [Lib.byteCells_length]; exact hk)
    have e2 : (Lib.byteCells l)[k]? = some (.int .u8 (l[k].toNat : Int)) := by simp [Lib.byteCells, hk]
    rw [e2] at e
    exact ⟨b, o, ha, lt_of_cell e, e⟩
theorem notX (x : Nat) (h : x < 4294967296) : bits BinOp.xor IntKind.u32 IntKind.u32.max (x : Int) = ((x ^^^ 4294967295 : Nat) : Int) := by
  rw [show IntKind.u32.max = ((4294967295 : Nat) : Int) from rfl, u32_xor_nat _ _ (by omega) h, Nat.xor_comm]
theorem notNot (x : Nat) : x ^^^ 4294967295 ^^^ 4294967295 = x := by rw [Nat.xor_assoc, Nat.xor_self, Nat.xor_zero]
set_option maxRecDepth 100000 in
theorem add_any (b0 : Nat) (z0 : Nat) (hz0 : z0 < 4294967296) (v : Value) (l : List UInt8) (w : World) (h : BytesAt w v l) (hc : w.cell? ⟨b0, 0, none⟩ = some (.int .u32 ((z0 ^^^ 4294967295 : Nat) : Int))) (hf : w.frozen? ⟨b0, 0, none⟩ = false) :
    Calls Tryz.prog 81 #[.pointer (some ⟨b0, 0, none⟩), v] w fun e w' => e = .returned (.tuple #[]) ∧ w' = w.setCell ⟨b0, 0, none⟩ (.int .u32 ((crcFrom z0 (nats l) ^^^ 4294967295 : Nat) : Int)) := by
  obtain ⟨a, cap, rfl, h1, h2, h3⟩ := h.get
  have H3 := Lib.hid h3; clear h3 h
  unfold maxLen at h2
  have HC := Lib.hid (show crcFrom z0 (nats (l.take l.length)) = crcFrom z0 (nats l) by rw [List.take_length])
  have HLT := Lib.hid (fun k => crcFrom_lt (l := nats (l.take k)) (x := z0) hz0 nats_lt)
  have n1 : bits BinOp.xor IntKind.u32 IntKind.u32.max ((z0 ^^^ 4294967295 : Nat) : Int) = (z0 : Int) := by rw [notX _ (xor_lt32 hz0 (by omega)), notNot]
  have sg : IntKind.u32.signed = false := rfl
  go_enter Tryz.func81, Tryz.ntmps81
  go_wp2_with fail
  clear n1
  go_loopg [4, 14] l.length (fun g x i wr => ∃ k : Nat, g = l.length - k ∧ k ≤ l.length ∧ i = .int .i64 k ∧ x = .int .u32 ((crcFrom z0 (nats (l.take k)) : Nat) : Int) ∧ wr = w)
  case atStart => exact ⟨0, rfl, by omega, rfl, rfl, rfl⟩
  case round =>
    obtain ⟨k, hgk, hk, rfl, rfl, rfl⟩ := hrel
    have HK := Lib.hid hgk; clear hgk
    have hx := HLT.out k
    by_cases hlt : k < l.length
    · obtain ⟨b, o, hab, hbl, hcell⟩ := H3.out k hlt
      subst hab
      have hcb := l[k].toNat_lt
      have HS := Lib.hid (show crcFrom z0 (nats (l.take (k + 1))) = crcByte (crcFrom z0 (nats (l.take k))) l[k].toNat by rw [nats_snoc l k hlt, crcFrom_append]; rfl)
      generalize crcFrom z0 (nats (l.take k)) = x at *
      generalize l[k].toNat = c at *
      rw [crcByte_table] at HS
      have a1 : bits BinOp.xor IntKind.u8 ((x : Int) % 256) (c : Int) = ((x % 256 ^^^ c : Nat) : Int) := by rw [show ((x : Int) % 256) = ((x % 256 : Nat) : Int) by omega]; exact u8_xor_nat _ _ (by omega) (by omega)
      have hy : x % 256 ^^^ c < 256 := Nat.xor_lt_two_pow (n := 8) (by omega) (by omega)
      have hy8 := cstep8_lt (x := x % 256 ^^^ c) (by omega)
      have ST := Lib.hid (step_any (x % 256 ^^^ c) hy)
      generalize x % 256 ^^^ c = y at *
      generalize cstep8 y = z at *
      have a2 : bits BinOp.xor IntKind.u32 ((x : Int) / 256) (z : Int) = ((x / 256 ^^^ z : Nat) : Int) := by rw [show ((x : Int) / 256) = ((x / 256 : Nat) : Int) by omega]; exact u32_xor_nat _ _ (by omega) hy8
      go_wp2_with fail
      refine (ST.out _).mono ?_
      rintro e w1 ⟨rfl, rfl⟩
      go_wp2_with fail
      go_roundg (l.length - (k + 1))
      case measure => rw [HK.out]; omega
      case rel => exact ⟨k + 1, rfl, by omega, by go_num, by rw [HS.out], rfl⟩
    · obtain rfl : k = l.length := by omega
      rw [HC.out] at hx ⊢
      have n2 := notX _ hx
      go_wp2_with fail
      go_end0
      exact ⟨rfl, rfl⟩
set_option maxRecDepth 100000 in
theorem value_any (b0 : Nat) (x : Int) (w : World) (hc : w.cell? ⟨b0, 0, none⟩ = some (.int .u32 x)) :
    Calls Tryz.prog 82 #[.pointer (some ⟨b0, 0, none⟩)] w fun e w' => e = .returned (.int .u32 x) ∧ w' = w := by
  go_enter Tryz.func82, Tryz.ntmps82
  go_wp2_with fail
  go_ret
  exact ⟨rfl, rfl⟩
set_option maxRecDepth 100000 in
theorem crc_any (v : Value) (l : List UInt8) (w : World) (h : BytesAt w v l) :
    Calls Tryz.prog 42 #[v] w fun e w' => e = .returned (.int .u32 ((crc (nats l) : Nat) : Int)) ∧ Below w.heap.size w w' := by
  have H := Lib.hid h
  obtain ⟨a, cap, rfl, h1, h2, h3, h4⟩ := h
  clear h3 h4
  have hx : crcFrom 4294967295 (nats l) < 4294967296 := crcFrom_lt (by omega) nats_lt
  have A := Lib.hid (fun W h1 h2 h3 => add_any w.heap.size 4294967295 (by omega) (.slice a l.length cap) l W h1 h2 h3)
  go_enter Tryz.func42, Tryz.ntmps42
  go_wp2_with fail
  refine (A.out _ (H.out.later ?_) (by simp) (by simp)).mono ?_
  · repeat (first | with_reducible exact Below.refl _ _ | ((with_reducible refine Below.setCell ?_ ?_ _); rotate_left; focus (first | (simp; done) | (simp; omega) | omega)) | ((with_reducible refine Below.alloc ?_ ?_ _); rotate_left; focus (first | (simp; done) | (simp; omega) | omega)) | (with_reducible refine Below.drew ?_))
  rintro e w1 ⟨rfl, rfl⟩
  go_wp2_with fail
  refine (value_any w.heap.size ((crcFrom 4294967295 (nats l) ^^^ 4294967295 : Nat) : Int) _ (by simp)).mono ?_
  rintro e w1 ⟨rfl, rfl⟩
  go_wp2_with fail
  go_ret
  refine ⟨rfl, ?_⟩
  repeat (first | with_reducible exact Below.refl _ _ | ((with_reducible refine Below.setCell ?_ ?_ _); rotate_left; focus (first | (simp; done) | (simp; omega) | omega)) | ((with_reducible refine Below.alloc ?_ ?_ _); rotate_left; focus (first | (simp; done) | (simp; omega) | omega)) | (with_reducible refine Below.drew ?_))
end Go.Proofs.YtibopjjicfiimaaGreatDoor
