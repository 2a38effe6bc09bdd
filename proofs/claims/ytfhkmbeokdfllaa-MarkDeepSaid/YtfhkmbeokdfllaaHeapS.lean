/- Memory: another byte of an object; a byte of it. -/
import Derived.Test.YtfhkmbeokdfllaaHeapR
namespace Go.Proofs.Ytfhkmbeokdfllaa
open Go.RowKit
set_option linter.unusedVariables false
def putM (M : Nat → Nat) (a i c : Nat) : Nat → Nat := fun j => if j = a + 2 + i / 8 then putIn (M (a + 2 + i / 8)) (i % 8) c else M j
/-- an object of n bytes at a place -/
def IsRaw (S : Nat → Bool) (M : Nat → Nat) (N a n : Nat) : Prop := 1 ≤ a ∧ a + 2 + (n + 7) / 8 ≤ N ∧ S a = true ∧ UnOK (M a) (M (a + 1)) ∧ hK (M (a + 1)) = 2 ∧ hS (M (a + 1)) = (n : Int)
theorem IsRaw.put {S : Nat → Bool} {M : Nat → Nat} {N a n i c : Nat} (h : IsRaw S M N a n) : IsRaw S (putM M a i c) N a n := by
  obtain ⟨h1, h2, h3, h4, h5, h6⟩ := h
  have e0 : putM M a i c a = M a := by unfold putM; rw [if_neg (by omega)]
  have e1 : putM M a i c (a + 1) = M (a + 1) := by unfold putM; rw [if_neg (by omega)]
  exact ⟨h1, h2, h3, by rw [e0, e1]; exact h4, by rw [e1]; exact h5, by rw [e1]; exact h6⟩
theorem HeapAt.typed {w : World} {B h N free g : Nat} {S : Nat → Bool} {M : Nat → Nat} (H : HeapAt w B h N free S M) (hg : w.cell? ⟨h, 0, none⟩ = some (.slice (some ⟨g, 0, none⟩) N N)) : ∃ c fr, w.heap[g]? = some (.cells c 29 fr) := by
  obtain ⟨g', s, h1, h2, h3, h3', h4, h5, h6, h7, h8⟩ := H
  have : w.cell? ⟨h, 0, none⟩ = some (.slice (some ⟨g', 0, none⟩) N N) := by simp [World.cell?, h5]
  rw [this] at hg
  injection hg with hg
  injection hg with hg _ _
  injection hg with hg
  injection hg with hg _ _
  subst hg
  obtain ⟨c, hc, -⟩ := h6
  exact ⟨c, _, hc⟩
theorem HeapAt.keeps {w w' : World} {B h N free : Nat} {S : Nat → Bool} {M : Nat → Nat} {T : TypeId} (H : HeapAt w B h N free S M) (hk : KeepsBut T w w') (t1 : 54 ≠ T) (t2 : 29 ≠ T) (t3 : 78 ≠ T) (t4 : 28 ≠ T) : HeapAt w' B h N free S M := by
  obtain ⟨g, s, h1, h2, h3, h3', h4, h5, h6, h7, h8⟩ := H
  exact ⟨g, s, h1, h2, h3, h3', h4, by rw [hk h _ _ _ h5 t1]; exact h5, hk.row h6 t2, h7, h8.keeps hk t3 t4⟩
set_option maxRecDepth 100000 in
theorem putByte_no (B h N free a n : Nat) (i : Int) (c : Nat) (S : Nat → Bool) (M : Nat → Nat) (w : World) (H : HeapAt w B h N free S M) (R : IsRaw S M N a n) (hi : ¬ (0 ≤ i ∧ i < n)) :
    Calls Try.prog 12 #[.pointer (some ⟨h, 0, none⟩), .int .u64 (a * 2 : Int), .int .i64 i, .int .u8 (c : Int)] w fun e w' => e = .returned (.int .i64 6) ∧ Below w.heap.size w w' := by
  obtain ⟨r1, r2, r3, r4, r5, r6⟩ := R
  have F := Lib.hid (find_raw B h N free a i S M w H r1 (by omega) r3 r4 r5)
  rw [r6, if_neg hi] at F
  clear H r3 r4 r5 r6
  go_enter Try.func12, Try.ntmps12
  go_wp2_with fail
  refine F.out.mono ?_
  rintro e w1 ⟨rfl, hg⟩
  have HG := Lib.hid hg; clear hg
  go_wp2_with fail
  go_ret
  exact ⟨rfl, HG.out⟩
set_option maxRecDepth 100000 in
theorem putByte_yes (B h N free a n i c : Nat) (S : Nat → Bool) (M : Nat → Nat) (w : World) (H : HeapAt w B h N free S M) (hB : B ≤ w.heap.size) (R : IsRaw S M N a n) (hi : i < n) (hc : c < 256) :
    Calls Try.prog 12 #[.pointer (some ⟨h, 0, none⟩), .int .u64 (a * 2 : Int), .int .i64 (i : Int), .int .u8 (c : Int)] w fun e w' => e = .returned (.int .i64 0) ∧ HeapAt w' B h N free S (putM M a i c) ∧ Below B w w' ∧ KeepsBut 29 w w' := by
  obtain ⟨r1, r2, r3, r4, r5, r6⟩ := R
  have F := Lib.hid (find_raw B h N free a (i : Int) S M w H r1 (by omega) r3 r4 r5)
  rw [r6, if_pos ⟨by omega, by omega⟩] at F
  have hN : N ≤ 16777216 := by obtain ⟨g, s, -, -, h3, -⟩ := H; exact h3
  have hM7 : ∀ j, M j < 18446744073709551616 := by obtain ⟨g, s, -, -, -, -, -, -, -, h7, -⟩ := H; exact h7
  have HH := Lib.hid H
  clear H r3 r4 r5 r6
  have hq : a + 2 + i / 8 < N := by omega
  obtain ⟨q, hqe⟩ : ∃ q, a + 2 + i / 8 = q := ⟨_, rfl⟩
  have hqi : (a : Int) + 2 + (i : Int) / 8 = (q : Int) := by omega
  obtain ⟨r, hre⟩ : ∃ r, i % 8 = r := ⟨_, rfl⟩
  have hri : (i : Int) % 8 = (r : Int) := by omega
  have hr : r < 8 := by omega
  have hW := hM7 q
  have h2 : 2 ^ (8 * r) ≤ 2 ^ 56 := Nat.pow_le_pow_right (by omega) (by omega)
  have s1 : IntKind.u64.wrap (255 * 2 ^ (8 * r)) = ((255 * 2 ^ (8 * r) : Nat) : Int) := by
    rw [show (255 * 2 ^ (8 * r) : Int) = ((255 * 2 ^ (8 * r) : Nat) : Int) by simp]
    generalize 2 ^ (8 * r) = p at h2 ⊢
    rw [IntKind.wrap_u64]; omega
  have hcp : c * 2 ^ (8 * r) ≤ 255 * 2 ^ 56 := Nat.mul_le_mul (by omega) h2
  have s2 : IntKind.u64.wrap ((c : Int) * 2 ^ (8 * r)) = ((c * 2 ^ (8 * r) : Nat) : Int) := by
    rw [show ((c : Int) * 2 ^ (8 * r)) = ((c * 2 ^ (8 * r) : Nat) : Int) by simp]
    generalize c * 2 ^ (8 * r) = p at hcp ⊢
    rw [IntKind.wrap_u64]; omega
  have b1 := u64_andNot_nat (M q) (255 * 2 ^ (8 * r)) hW (by omega)
  have b2 := u64_or_nat (M q &&& (18446744073709551615 - 255 * 2 ^ (8 * r))) (c * 2 ^ (8 * r)) (Nat.lt_of_le_of_lt Nat.and_le_left hW) (by omega)
  have hput : putIn (M q) r c = (M q &&& (18446744073709551615 - 255 * 2 ^ (8 * r))) ||| (c * 2 ^ (8 * r)) := rfl
  rw [← hput] at b2
  have hlt := putIn_lt (M q) r c hW hc hr
  have HE := Lib.hid (show putM M a i c = fun j => if j = q then putIn (M q) r c else M j by unfold putM; rw [hqe, hre])
  generalize putIn (M q) r c = new at *
  generalize M q &&& (18446744073709551615 - 255 * 2 ^ (8 * r)) = u1 at *
  generalize 255 * 2 ^ (8 * r) = u2 at *
  rw [hqi] at F
  rw [HE.out]
  rw [hqe] at hq
  clear hput hcp h2 hqe hre hqi
  go_enter Try.func12, Try.ntmps12
  go_wp2_with fail
  refine F.out.mono ?_
  rintro e w1 ⟨rfl, hg⟩
  have h1 := HH.out.later hg
  obtain ⟨g, g0, gB, gl, hl, gc, gf, gset⟩ := h1.store q hq
  have HKB := Lib.hid ((KeepsBut.below (T0 := 29) hg).setCell (a := ⟨g, q, none⟩) (u := .int .u64 (new : Int)) (h1.typed g0))
  have HS := Lib.hid (gset new hlt)
  have HBS := Lib.hid ((hg.mono hB).setCell (p := ⟨g, q, none⟩) gB (.int .u64 (new : Int)))
  clear h1 gset hg
  go_wp2_with fail
  all_goals (try (exfalso; go_light; omega))
  go_region
  go_wp2_with fail
  go_ret
  have b3 : bits BinOp.or IntKind.u64 (u1 : Int) ((c : Int) * 2 ^ (8 * r)) = (new : Int) := by rw [← b2]; simp
  rw [b3]
  exact ⟨rfl, HS.out, HBS.out.drew, HKB.out.trans (KeepsBut.of_heap rfl)⟩
set_option maxRecDepth 100000 in
theorem byte_any (B h N free a n i : Nat) (S : Nat → Bool) (M : Nat → Nat) (w : World) (H : HeapAt w B h N free S M) (R : IsRaw S M N a n) (hi : i < n) :
    Calls Try.prog 31 #[.pointer (some ⟨h, 0, none⟩), .int .u64 (a * 2 : Int), .int .i64 (i : Int)] w fun e w' => e = .returned (.tuple #[.int .u8 (byteIn (M (a + 2 + i / 8)) (i % 8) : Int), .int .i64 0]) ∧ Below w.heap.size w w' := by
  obtain ⟨r1, r2, r3, r4, r5, r6⟩ := R
  have F := Lib.hid (find_raw B h N free a (i : Int) S M w H r1 (by omega) r3 r4 r5)
  rw [r6, if_pos ⟨by omega, by omega⟩] at F
  have hN : N ≤ 16777216 := by obtain ⟨g, s, -, -, h3, -⟩ := H; exact h3
  have HH := Lib.hid H
  clear H r3 r4 r5 r6
  have hq : a + 2 + i / 8 < N := by omega
  obtain ⟨q, hqe⟩ : ∃ q, a + 2 + i / 8 = q := ⟨_, rfl⟩
  have hqi : (a : Int) + 2 + (i : Int) / 8 = (q : Int) := by omega
  obtain ⟨r, hre⟩ : ∃ r, i % 8 = r := ⟨_, rfl⟩
  have hri : (i : Int) % 8 = (r : Int) := by omega
  have hr : r < 8 := by omega
  have hby : ((M q : Int) / 2 ^ (8 * r)) % 256 = (byteIn (M q) r : Int) := by unfold byteIn; simp
  rw [hqi] at F
  rw [hqe] at hq
  rw [hqe, hre]
  have HBY := Lib.hid hby
  clear hqe hre hqi hby
  go_enter Try.func31, Try.ntmps31
  go_wp2_with fail
  refine F.out.mono ?_
  rintro e w1 ⟨rfl, hg⟩
  have h1 := HH.out.later hg
  obtain ⟨g, g0, gB, gl, hl, gc, gf, -⟩ := h1.store q hq
  have HG := Lib.hid hg
  clear h1 hg
  go_wp2_with fail
  all_goals (try (exfalso; go_light; omega))
  refine bodyPost_ret (v := .tuple #[.int .u8 (byteIn (M q) r : Int), .int .i64 0]) (by simp [results, Try.results31, go_sem, HBY.out]) rfl ⟨rfl, HG.out⟩
end Go.Proofs.Ytfhkmbeokdfllaa
