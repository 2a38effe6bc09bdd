/- Plain laws on the bits of a word, and small words for closing a walk: nothing of the program. -/
import Derived.WalkKit
import Derived.Laws.BitsAllLaws
namespace Go.Proofs.YtibopjjicfiimaaGreatDoor
open Go.RowKit
theorem ret_int {k : IntKind} {a b : Int} (h : a = b) : Ending.returned (.int k a) = .returned (.int k b) := by rw [h]
theorem ret_bool {a b : Bool} (h : a = b) : Ending.returned (.bool a) = .returned (.bool b) := by rw [h]
theorem bcell {W w1 : World} (hb : Below W.heap.size W w1) : (∀ b o, b < W.heap.size → w1.cell? ⟨b, o, none⟩ = W.cell? ⟨b, o, none⟩) ∧ (∀ b o, b < W.heap.size → w1.frozen? ⟨b, o, none⟩ = W.frozen? ⟨b, o, none⟩) :=
  ⟨fun b o h => hb.cell (p := ⟨b, o, none⟩) h, fun b o h => hb.frozen (p := ⟨b, o, none⟩) h⟩
theorem and1 (a : Int) (h0 : 0 ≤ a) (h1 : a < 18446744073709551616) : bits BinOp.and IntKind.u64 a 1 = a % 2 := by
  rw [u64_and a 1 h0 h1 (by omega) (by omega)]
  show ((a.toNat &&& 1 : Nat) : Int) = _
  rw [nat_mask1]; omega
theorem and15 (a : Int) (h0 : 0 ≤ a) (h1 : a < 18446744073709551616) : bits BinOp.and IntKind.u64 a 15 = a % 16 := by
  rw [u64_and a 15 h0 h1 (by omega) (by omega)]
  show ((a.toNat &&& 15 : Nat) : Int) = _
  rw [nat_mask4]; omega
theorem and32 (a : Int) (h0 : 0 ≤ a) (h1 : a < 18446744073709551616) : bits BinOp.and IntKind.u64 a 4294967295 = a % 4294967296 := by
  rw [u64_and a 4294967295 h0 h1 (by omega) (by omega)]
  show ((a.toNat &&& 4294967295 : Nat) : Int) = _
  rw [nat_mask32]; omega
theorem join32 (x y : Int) (hx : 0 ≤ x) (hx1 : x < 4294967296) (hy : 0 ≤ y) (hy1 : y < 4294967296) : bits BinOp.or IntKind.u64 x (y * 4294967296) = x + y * 4294967296 := by
  rw [u64_or x _ hx (by omega) (by omega) (by omega), Nat.or_comm, nat_join 32 _ _ (by omega) (by omega)]
  omega
theorem join40 (x y : Int) (hx : 0 ≤ x) (hx1 : x < 1099511627776) (hy : 0 ≤ y) (hy1 : y < 16777216) : bits BinOp.or IntKind.u64 x (y * 1099511627776) = x + y * 1099511627776 := by
  rw [u64_or x _ hx (by omega) (by omega) (by omega), Nat.or_comm, nat_join 40 _ _ (by omega) (by omega)]
  omega
/-- the mark's bit, laid over size, kind and hash -/
theorem joinMark (x h : Int) (hx : 0 ≤ x) (hx1 : x < 68719476736) (hh : 0 ≤ h) (hh1 : h < 16777216) : bits BinOp.or IntKind.u64 (x + h * 1099511627776) 68719476736 = x + h * 1099511627776 + 68719476736 := by
  obtain ⟨x, rfl⟩ := Int.eq_ofNat_of_zero_le hx
  obtain ⟨h, rfl⟩ := Int.eq_ofNat_of_zero_le hh
  have e : ((x : Int) + (h : Int) * 1099511627776) = ((x + h * 1099511627776 : Nat) : Int) := by omega
  rw [e, show (68719476736 : Int) = ((68719476736 : Nat) : Int) from rfl, u64_or_nat _ _ (by omega) (by omega)]
  have e1 : h * 1099511627776 ||| x = h * 1099511627776 + x := nat_join 40 _ _ (by omega) (by omega)
  have e2 : (68719476736 : Nat) ||| x = 68719476736 + x := nat_join 36 _ _ (by omega) (by omega)
  have e3 : (h * 1099511627776) ||| (68719476736 + x) = h * 1099511627776 + (68719476736 + x) := nat_join 40 _ _ (by omega) (by omega)
  have e4 : x + h * 1099511627776 ||| 68719476736 = h * 1099511627776 + (68719476736 + x) := by
    rw [Nat.add_comm x, ← e1, Nat.or_assoc, Nat.or_comm x, e2, e3]
  rw [e4]; omega
end Go.Proofs.YtibopjjicfiimaaGreatDoor
