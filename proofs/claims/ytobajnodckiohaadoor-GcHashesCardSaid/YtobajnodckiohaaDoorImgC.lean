/- Memory as bytes. Bytes that are no image. -/
import Derived.Test.YtobajnodckiohaaDoorImgA
import Derived.Test.YtobajnodckiohaaDoorPackWf
import Derived.Test.YtobajnodckiohaaDoorPackPut
import Derived.Lib.SlBytesConst
import Derived.Test.YtobajnodckiohaaDoorShelf
import Derived.Lib.SmallJoins
namespace Go.Proofs.YtobajnodckiohaaDoor
open Go.RowKit
set_option linter.unusedVariables false
def headL : List UInt8 := [70, 78, 68, 76, 1, 0, 0, 0]
/-- what stands ahead of the words, and they -/
def allL (M : Nat → Nat) (free root : Nat) : List Nat := [free - 2, 0, root] ++ usedL M free
def bodyL (M : Nat → Nat) (free root : Nat) : List UInt8 := headL ++ wordsL (allL M free root)
def imgL (M : Nat → Nat) (free root : Nat) : List UInt8 := bodyL M free root ++ leBytes (crc (nats (bodyL M free root))) 4
theorem allL_len (M : Nat → Nat) (free root : Nat) : (allL M free root).length = 3 + (free - 2) := by simp [allL, usedL_len]; omega
theorem bodyL_len (M : Nat → Nat) (free root : Nat) : (bodyL M free root).length = 32 + 8 * (free - 2) := by
  unfold bodyL; rw [List.length_append, wordsL_len, allL_len]; simp [headL]; omega
theorem imgL_len (M : Nat → Nat) (free root : Nat) : (imgL M free root).length = 36 + 8 * (free - 2) := by
  unfold imgL; rw [List.length_append, bodyL_len, leBytes_len]; omega
theorem usedL_small {M : Nat → Nat} (hM : ∀ i, M i < 18446744073709551616) (free : Nat) : SmallW (usedL M free) := fun x hx => by
  obtain ⟨i, _, rfl⟩ := List.mem_map.1 hx
  exact hM _
theorem allL_small {M : Nat → Nat} (hM : ∀ i, M i < 18446744073709551616) (free root : Nat) (hf : free ≤ 100000) (hr : root < 18446744073709551616) : SmallW (allL M free root) := fun x hx => by
  rcases List.mem_append.1 hx with hx | hx
  · simp at hx; omega
  · exact usedL_small hM free x hx
theorem crc_lt32 (l : List UInt8) : crc (nats l) < 4294967296 := by
  have h : crcFrom 4294967295 (nats l) < 4294967296 := crcFrom_lt (by omega) (fun c hc => by
    obtain ⟨x, _, rfl⟩ := List.mem_map.1 hc
    exact x.toNat_lt)
  exact Nat.xor_lt_two_pow (n := 32) h (by omega)
theorem owns_low {w : World} {B B' : Nat} {v : Value} {l : List UInt8} (h : OwnsB w B v l) (hB : B' ≤ B) : OwnsB w B' v l := by
  refine ⟨h.1, ?_⟩
  rcases h.2 with h2 | ⟨g, cap, cur, a, b, c⟩
  · exact Or.inl h2
  · exact Or.inr ⟨g, cap, cur, a, Nat.le_trans hB b, c⟩
theorem headPut : [70, 78, 68, 76] ++ leBytes 1 (clip8 4) = headL := by decide
set_option maxRecDepth 100000 in
theorem hlast_any (B h N free : Nat) (S : Nat → Bool) (M : Nat → Nat) (w : World) (H : HeapAt w B h N free S M) :
    Calls Tryd.prog 9 #[.pointer (some ⟨h, 0, none⟩)] w fun e w' => e = .returned (.int .u32 (M 16777216 : Int)) ∧ w' = w := by
  obtain ⟨g, s, -, -, -, -, hf, h5, -⟩ := H
  have c3 := cellO h5 3
  simp at c3
  clear h5
  go_enter Tryd.func9, Tryd.ntmps9
  go_wp2_with fail
  exact bodyPost_ret (v := .int .u32 (M 16777216 : Int)) (by simp [results, Tryd.results9, go_sem]) rfl ⟨rfl, rfl⟩
theorem bytes_four (w : World) : BytesAt (w.alloc (.cells #[.int .u8 70, .int .u8 78, .int .u8 68, .int .u8 76] 5 (4, 5))) (.slice (some ⟨w.heap.size, 0, none⟩) 4 4) [70, 78, 68, 76] := by
  refine ⟨_, 4, rfl, Nat.le_refl _, by unfold maxLen; omega, Or.inr ⟨w.heap.size, 0, rfl, fun j hj => ?_⟩, fun h => by cases h⟩
  have hblk := heap_alloc_new w (.cells #[.int .u8 70, .int .u8 78, .int .u8 68, .int .u8 76] 5 (4, 5))
  match j, hj with
  | 0, _ => exact (cellO hblk _).trans rfl
  | 1, _ => exact (cellO hblk _).trans rfl
  | 2, _ => exact (cellO hblk _).trans rfl
  | 3, _ => exact (cellO hblk _).trans rfl
end Go.Proofs.YtobajnodckiohaaDoor
namespace Go.Proofs.YtobajnodckiohaaDoor
open Go.RowKit
set_option linter.unusedVariables false
theorem bytesOf_nats (L : List UInt8) : Lib.bytesOf (L.map fun b => (b.toNat : Int)) = L := by
  unfold Lib.bytesOf
  rw [List.map_map]
  conv => rhs; rw [← List.map_id L]
  apply List.map_congr_left
  intro b _
  simp
/-- is it an image at all? -/
def Fits (L : List UInt8) : Prop := Lib.hasPrefix L headL = true ∧ getN (L.drop (L.length - 4)) 4 = crc (nats (L.take (L.length - 4)))
theorem getN4_lt (l : List UInt8) : getN l 4 < 4294967296 := by
  unfold getN
  split
  · have h := leVal_lt (l.take (clip8 4))
    have h4 : clip8 4 = 4 := by decide
    rw [h4] at h ⊢
    have hl : (l.take 4).length ≤ 4 := by rw [List.length_take]; omega
    exact Nat.lt_of_lt_of_le h (Nat.pow_le_pow_right (by omega) (show 8 * (l.take 4).length ≤ 32 by omega))
  · omega
end Go.Proofs.YtobajnodckiohaaDoor
