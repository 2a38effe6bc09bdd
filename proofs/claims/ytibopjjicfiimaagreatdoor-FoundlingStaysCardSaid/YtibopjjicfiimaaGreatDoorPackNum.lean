/- A number's lowest bytes read back; the document's of both; a copy with tinted room behind it. -/
import Derived.Test.YtibopjjicfiimaaGreatDoorPackOpen
import Derived.Test.YtibopjjicfiimaaGreatDoorPackPut
import Derived.Test.YtibopjjicfiimaaGreatDoorPackCrc
import Derived.Deep.OwnRows
namespace Go.Proofs.YtibopjjicfiimaaGreatDoor
open Go.RowKit
def leVal : List UInt8 → Nat
  | [] => 0
  | c :: l => c.toNat + 256 * leVal l
theorem leVal_lt (l : List UInt8) : leVal l < 2 ^ (8 * l.length) := by
  induction l with
  | nil => simp [leVal]
  | cons c l ih =>
    have := c.toNat_lt
    simp only [leVal, List.length_cons]
    rw [show 8 * (l.length + 1) = 8 * l.length + 8 by omega, Nat.pow_add]
    omega
theorem leVal_snoc (l : List UInt8) (c : UInt8) : leVal (l ++ [c]) = leVal l + c.toNat * 2 ^ (8 * l.length) := by
  induction l with
  | nil => simp [leVal]
  | cons d l ih =>
    simp only [List.cons_append, leVal, List.length_cons]
    rw [ih, show 8 * (l.length + 1) = 8 * l.length + 8 by omega, Nat.pow_add, Nat.mul_add, ← Nat.mul_assoc, Nat.add_assoc]
    congr 1; congr 1
    rw [show (2:Nat) ^ 8 = 256 from rfl]
    generalize 2 ^ (8 * l.length) = p
    rw [Nat.mul_comm p 256, ← Nat.mul_assoc, Nat.mul_comm 256]
theorem leVal_take (l : List UInt8) (k : Nat) (h : k < l.length) (h8 : k < 8) : leVal (l.take (k + 1)) = leVal (l.take k) ||| (l[k].toNat * 2 ^ (8 * k)) ∧ leVal (l.take k) < 18446744073709551616 ∧ l[k].toNat * 2 ^ (8 * k) < 18446744073709551616 := by
  have hc := l[k].toNat_lt
  have hlen : (l.take k).length = k := by rw [List.length_take]; omega
  have h1 := leVal_lt (l.take k)
  rw [hlen] at h1
  have h2 : 2 ^ (8 * k) ≤ 2 ^ 56 := Nat.pow_le_pow_right (by omega) (by omega)
  refine ⟨?_, by omega, ?_⟩
  · rw [List.take_succ_eq_append_getElem h, leVal_snoc, hlen, Nat.or_comm, nat_join (8 * k) _ _ (Nat.mul_mod_left _ _) h1]
    omega
  · calc l[k].toNat * 2 ^ (8 * k) ≤ 255 * 2 ^ 56 := Nat.mul_le_mul (by omega) h2
      _ < _ := by decide
/-- what is read of the first bytes -/
def getN (l : List UInt8) (n : Int) : Nat := if clip8 n ≤ l.length then leVal (l.take (clip8 n)) else 0
set_option maxRecDepth 100000 in
theorem get_any (v : Value) (l : List UInt8) (n : Int) (w : World) (h : BytesAt w v l) :
    Calls Tryz.prog 85 #[v, .int .i64 n] w fun e w' => e = .returned (.tuple #[.int .u64 (getN l n : Int), .int .i64 (if clip8 n ≤ l.length then 0 else 4)]) ∧ w' = w := by
  obtain ⟨a, cap, rfl, h1, h2, h3⟩ := h.get
  have H3 := Lib.hid h3; clear h3 h
  unfold maxLen at h2
  have hm : max 0 (min n 8) = ((clip8 n : Nat) : Int) := by unfold clip8; omega
  have hc8 : clip8 n ≤ 8 := by unfold clip8; omega
  unfold getN
  generalize clip8 n = c at *
  by_cases hcl : c ≤ l.length
  · rw [if_pos hcl, if_pos hcl]
    go_enter Tryz.func85, Tryz.ntmps85
    go_wp2_with fail
    go_loopg [6, 20] c (fun g x i wr => ∃ k : Nat, g = c - k ∧ k ≤ c ∧ i = .int .i64 k ∧ x = .int .u64 ((leVal (l.take k) : Nat) : Int) ∧ wr = w)
    case atStart => exact ⟨0, rfl, by omega, rfl, by simp [leVal], rfl⟩
    case round =>
      obtain ⟨k, hgk, hk, rfl, rfl, rfl⟩ := hrel
      have HK := Lib.hid hgk; clear hgk
      by_cases hlt : k < c
      · obtain ⟨hs, hx1, hx2⟩ := leVal_take l k (by omega) (by omega)
        obtain ⟨b, o, hab, hbl, hcell⟩ := H3.out k (by omega)
        subst hab
        have HS := Lib.hid hs; clear hs
        have hcb := l[k].toNat_lt
        have a1 := u64_or_nat (leVal (l.take k)) (l[k].toNat * 2 ^ (8 * k)) hx1 hx2
        generalize leVal (l.take k) = x at *
        generalize l[k].toNat = c8 at *
        have a2 : IntKind.u64.wrap ((c8 : Int) * 2 ^ (8 * k)) = ((c8 * 2 ^ (8 * k) : Nat) : Int) := by
          rw [show ((c8 : Int) * 2 ^ (8 * k)) = ((c8 * 2 ^ (8 * k) : Nat) : Int) by simp]
          generalize c8 * 2 ^ (8 * k) = z at hx2 ⊢
          rw [IntKind.wrap_u64]; omega
        go_wp2_with fail
        go_roundg (c - (k + 1))
        case measure => rw [HK.out]; omega
        case rel => exact ⟨k + 1, rfl, by omega, by go_num, by rw [HS.out, ← a1]; simp, rfl⟩
      · obtain rfl : k = c := by omega
        go_wp2_with fail
        exact bodyPost_ret (v := .tuple #[.int .u64 _, .int .i64 0]) (by simp [results, Tryz.results85, go_sem]) rfl ⟨rfl, rfl⟩
  · rw [if_neg hcl, if_neg hcl]
    go_enter Tryz.func85, Tryz.ntmps85
    go_wp2_with fail
    exact bodyPost_ret (v := .tuple #[.int .u64 0, .int .i64 4]) (by simp [results, Tryz.results85, go_sem]) rfl ⟨rfl, rfl⟩
theorem leVal_drop (l : List UInt8) (k : Nat) (h : k < l.length) : leVal (l.drop k) = l[k].toNat + 256 * leVal (l.drop (k + 1)) := by
  rw [List.drop_eq_getElem_cons h]; rfl
/-- a copy with tinted room behind it, whole -/
def spareL (l : List UInt8) : List UInt8 := l ++ (List.range 7).map fun i => UInt8.ofNat (190 + l.length + i)
theorem spareL_len (l : List UInt8) : (spareL l).length = l.length + 7 := by simp [spareL]
theorem spareL_in (l : List UInt8) (i : Nat) (h : i < l.length) : (spareL l)[i]? = some l[i] := by
  unfold spareL
  rw [List.getElem?_append_left h, List.getElem?_eq_getElem h]
theorem spareL_out (l : List UInt8) (i : Nat) (h : l.length ≤ i) (h7 : i < l.length + 7) : (spareL l)[i]? = some (UInt8.ofNat (190 + i)) := by
  unfold spareL
  rw [List.getElem?_append_right h, List.getElem?_map, List.getElem?_range (by omega)]
  show some (UInt8.ofNat (190 + l.length + (i - l.length))) = _
  rw [show 190 + l.length + (i - l.length) = 190 + i by omega]
theorem spareL_take (l : List UInt8) : (spareL l).take l.length = l := by simp [spareL]
theorem bytes_of_row {w : World} {g m cap : Nat} {f : Nat → Value} {L : List UInt8} (h : w.rowIs g 5 m f) (hm : L.length ≤ m) (hf : ∀ i (hi : i < L.length), f i = .int .u8 (L[i].toNat : Int)) (hc : L.length ≤ cap) (hcm : cap ≤ maxLen) : BytesAt w (.slice (some ⟨g, 0, none⟩) L.length cap) L := by
  refine ⟨_, cap, rfl, hc, hcm, Or.inr ⟨g, 0, rfl, fun j hj => ?_⟩, fun h => by cases h⟩
  rw [Lib.byteCells_length] at hj
  rw [Nat.zero_add, h.cell (by omega), hf j hj]
  simp [Lib.byteCells, hj]
/-- one byte of a row of the call's own is stored -/
theorem owns_turn {w : World} {B n c k : Nat} {a : Option Addr} {L : List UInt8} (h : OwnsB w B (.slice a n c) L) (hL : L.length = n) (hk : k < n) :
    ∃ g x, a = some ⟨g, 0, none⟩ ∧ B ≤ g ∧ g < w.heap.size ∧ w.cell? ⟨g, k, none⟩ = some (.int .u8 ((x : Nat) : Int)) ∧ x < 256 ∧ w.frozen? ⟨g, k, none⟩ = false ∧
      ∀ y, y < 256 → ∃ L' : List UInt8, L'.length = n ∧ OwnsB (w.setCell ⟨g, k, none⟩ (.int .u8 ((y : Nat) : Int))) B (.slice a n c) L' := by
  subst hL
  obtain ⟨g, c', hv, hB, hg, -, -⟩ := ownsB_form h (by omega)
  injection hv with ha _ hc
  subst ha hc
  refine ⟨g, L[k].toNat, rfl, hB, hg, ownsB_cell h k hk, L[k].toNat_lt, World.ownsRow.frozenAt h k, fun y hy => ⟨L.set k (UInt8.ofNat y), List.length_set, ?_⟩⟩
  have := ownsB_set h k (UInt8.ofNat y)
  have hd : (UInt8.ofNat y).toNat = y := by
    have : (UInt8.ofNat y).toNat = y % 256 := by simp
    omega
  rw [hd] at this
  exact this
end Go.Proofs.YtibopjjicfiimaaGreatDoor
