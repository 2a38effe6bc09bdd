/- The checksum: the program's and the document's. -/
import Derived.Test.YtobajnodckiohaaDoorBits
import Derived.Test.YtobajnodckiohaaDoorCrc
import Derived.Test.YtobajnodckiohaaDoorMem
import Derived.WalkKit
import Derived.WalkSpells
import Derived.Lib.Hide
import Derived.BigQuiet
import Derived.Deep.LoopGhost
import Derived.BigGuardPart
import Derived.Laws.BitsAllLaws
import Derived.Lib.Strings
namespace Go.Proofs.YtobajnodckiohaaDoor
open Go.RowKit
def cstepN : Nat → Nat → Nat
  | 0, x => x
  | k + 1, x => cstep (cstepN k x)
theorem cstepN_lt {k x : Nat} (h : x < 4294967296) : cstepN k x < 4294967296 := by
  induction k with
  | zero => exact h
  | succ k ih => exact cstep_lt ih
theorem cstepN8 (x : Nat) : cstepN 8 x = cstep8 x := rfl
theorem and1_32 (x : Nat) (h : x < 4294967296) : bits BinOp.and IntKind.u32 (x : Int) 1 = ((x % 2 : Nat) : Int) := by
  rw [show (1 : Int) = ((1 : Nat) : Int) from rfl, u32_and_nat x 1 h (by omega), Nat.and_one_is_mod]
theorem xorP (x : Nat) (h : x < 4294967296) : bits BinOp.xor IntKind.u32 (x : Int) 3988292384 = ((x ^^^ 3988292384 : Nat) : Int) := by
  rw [show (3988292384 : Int) = ((3988292384 : Nat) : Int) from rfl, u32_xor_nat x 3988292384 h (by omega)]
theorem andP : bits BinOp.and IntKind.u32 3988292384 4294967295 = 3988292384 := by
  rw [show (3988292384 : Int) = ((3988292384 : Nat) : Int) from rfl, show (4294967295 : Int) = ((4294967295 : Nat) : Int) from rfl, u32_and_nat _ _ (by omega) (by omega)]; decide
theorem and0 : bits BinOp.and IntKind.u32 3988292384 0 = 0 := by
  rw [show (3988292384 : Int) = ((3988292384 : Nat) : Int) from rfl, show (0 : Int) = ((0 : Nat) : Int) from rfl, u32_and_nat _ _ (by omega) (by omega)]; decide
theorem xor0 (x : Nat) (h : x < 4294967296) : bits BinOp.xor IntKind.u32 (x : Int) 0 = (x : Int) := by
  rw [show (0 : Int) = ((0 : Nat) : Int) from rfl, u32_xor_nat x 0 h (by omega), Nat.xor_zero]
/-- bytes as numbers -/
def nats (l : List UInt8) : List Nat := l.map UInt8.toNat
theorem nats_lt {l : List UInt8} : ∀ c ∈ nats l, c < 256 := by
  intro c hc
  obtain ⟨b, -, rfl⟩ := List.mem_map.1 hc
  exact b.toNat_lt
theorem nats_snoc (l : List UInt8) (k : Nat) (h : k < l.length) : nats (l.take (k + 1)) = nats (l.take k) ++ [l[k].toNat] := by
  rw [nats, nats, List.take_succ_eq_append_getElem h, List.map_append]; rfl
theorem BytesAt.get {w : World} {v : Value} {l : List UInt8} (h : BytesAt w v l) : ∃ a cap, v = .slice a l.length cap ∧ l.length ≤ cap ∧ cap ≤ maxLen ∧
    ∀ k (hk : k < l.length), ∃ b o, a = some ⟨b, o, none⟩ ∧ b < w.heap.size ∧ w.cell? ⟨b, o + k, none⟩ = some (.int .u8 (l[k].toNat : Int)) := by
  obtain ⟨a, cap, hv, h1, h2, h3, h4⟩ := h
  refine ⟨a, cap, hv, h1, h2, fun k hk => ?_⟩
  rcases h3 with h3 | ⟨b, o, ha, hc⟩
  · have : l = [] := by simpa [Lib.byteCells] using h3
    subst this; simp at hk
  · have e := hc k (by rw [Lib.byteCells_length]; exact hk)
    have e2 : (Lib.byteCells l)[k]? = some (.int .u8 (l[k].toNat : Int)) := by simp [Lib.byteCells, hk]
    rw [e2] at e
    exact ⟨b, o, ha, lt_of_cell e, e⟩
theorem notX (x : Nat) (h : x < 4294967296) : bits BinOp.xor IntKind.u32 IntKind.u32.max (x : Int) = ((x ^^^ 4294967295 : Nat) : Int) := by
  rw [show IntKind.u32.max = ((4294967295 : Nat) : Int) from rfl, u32_xor_nat _ _ (by omega) h, Nat.xor_comm]
theorem notNot (x : Nat) : x ^^^ 4294967295 ^^^ 4294967295 = x := by rw [Nat.xor_assoc, Nat.xor_self, Nat.xor_zero]
end Go.Proofs.YtobajnodckiohaaDoor
