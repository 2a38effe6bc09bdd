/- Plain laws of bytes in a word. Memory: a new object of bytes; where its bytes lie. Memory: another byte of an object; a byte of it. Memory: an object's head; all bytes of it. -/
import Derived.KernelRfl
import Derived.Test.YtobajnodckiohaaDoorHeapE
namespace Go.Proofs.YtobajnodckiohaaDoor
/-- byte j of a word -/
def byteIn (W j : Nat) : Nat := W / 2 ^ (8 * j) % 256
theorem byteIn_lt (W j : Nat) : byteIn W j < 256 := Nat.mod_lt _ (by omega)
theorem byteIn_bit (W j i : Nat) : (byteIn W j).testBit i = (decide (i < 8) && W.testBit (8 * j + i)) := by
  unfold byteIn
  rw [show (256 : Nat) = 2 ^ 8 from rfl, Nat.testBit_mod_two_pow, ← Nat.shiftRight_eq_div_pow, Nat.testBit_shiftRight]
/-- a word with another byte r -/
def putIn (W r c : Nat) : Nat := (W &&& (18446744073709551615 - 255 * 2 ^ (8 * r))) ||| (c * 2 ^ (8 * r))
theorem mask_bit (r b : Nat) (hr : r < 8) (hb : b < 64) : (18446744073709551615 - 255 * 2 ^ (8 * r)).testBit b = !(decide (8 * r ≤ b) && decide (b < 8 * r + 8)) := by
  have : ∀ r, r < 8 → ∀ b, b < 64 → (18446744073709551615 - 255 * 2 ^ (8 * r)).testBit b = !(decide (8 * r ≤ b) && decide (b < 8 * r + 8)) := by decide +kernel
  exact this r hr b hb
theorem putIn_lt (W r c : Nat) (hW : W < 18446744073709551616) (hc : c < 256) (hr : r < 8) : putIn W r c < 18446744073709551616 := by
  unfold putIn
  refine Nat.or_lt_two_pow (n := 64) (Nat.lt_of_le_of_lt Nat.and_le_left hW) ?_
  have h2 : 2 ^ (8 * r) ≤ 2 ^ 56 := Nat.pow_le_pow_right (by omega) (by omega)
  calc c * 2 ^ (8 * r) ≤ 255 * 2 ^ 56 := Nat.mul_le_mul (by omega) h2
    _ < _ := by decide
theorem putIn_byte (W r c j : Nat) (hc : c < 256) (hr : r < 8) (hj : j < 8) : byteIn (putIn W r c) j = if j = r then c else byteIn W j := by
  apply Nat.eq_of_testBit_eq
  intro i
  rw [byteIn_bit]
  unfold putIn
  rw [Nat.testBit_or, Nat.testBit_and, Nat.testBit_mul_two_pow]
  by_cases hi : i < 8
  · rw [mask_bit r _ hr (by omega)]
    by_cases e : j = r
    · subst e
      rw [if_pos rfl]
      simp [hi]
    · rw [if_neg e, byteIn_bit]
      by_cases h1 : j < r
      · have a1 : ¬ 8 * r ≤ 8 * j + i := by omega
        simp [hi, a1]
      · have a1 : 8 * r ≤ 8 * j + i := by omega
        have a2 : ¬ 8 * j + i < 8 * r + 8 := by omega
        have a3 : c.testBit (8 * j + i - 8 * r) = false := Nat.testBit_lt_two_pow (Nat.lt_of_lt_of_le (show c < 2 ^ 8 from hc) (Nat.pow_le_pow_right (by omega) (by omega)))
        simp [hi, a2, a3]
  · have : (if j = r then c else byteIn W j).testBit i = false := by
      have hl : (if j = r then c else byteIn W j) < 2 ^ 8 := by split; exact hc; exact byteIn_lt W j
      exact Nat.testBit_lt_two_pow (Nat.lt_of_lt_of_le hl (Nat.pow_le_pow_right (by omega) (by omega)))
    rw [this]; simp [hi]
end Go.Proofs.YtobajnodckiohaaDoor
namespace Go.Proofs.YtobajnodckiohaaDoor
open Go.RowKit
set_option linter.unusedVariables false
set_option maxRecDepth 100000 in
theorem raw_only (B h N free c n f : Nat) (S : Nat → Bool) (M : Nat → Nat) (w : World) (H : HeapAt w B h N free S M) (hB : B ≤ w.heap.size) (hc : c < 18446744073709551616) (hz : checkZ c 2 n 0 = 0) (hfit : free + (n + 7) / 8 + 2 ≤ N) (h2 : 2 ≤ free) :
    Calls Tryd.prog 13 #[.pointer (some ⟨h, 0, none⟩), .int .u64 (c : Int), .int .i64 2, .int .i64 (n : Int), .int .u64 (f : Int)] w fun e w' => e = .returned (.tuple #[.int .u64 (free * 2 : Int), .int .i64 0]) ∧ HeapAt w' B h N (free + 2 + (n + 7) / 8) (setS N S (free : Int) true) (put2 M free c (packZ 2 n 0 false).toNat) ∧ Below B w w' ∧ Stays h w w' := by
  have hfN : free ≤ N := by obtain ⟨g, s, -, -, -, -, h4, -⟩ := H; exact h4
  have hN : N ≤ 16777216 := by obtain ⟨g, s, -, -, h3, -⟩ := H; exact h3
  have PK := Lib.hid (fun W => pack_yes (c : Int) 2 n 0 false (by omega) (by omega) (by omega) hz W)
  have CL := Lib.hid (fun W => cells_any (c : Int) 2 n 0 false (by omega) (by omega) W)
  have hcl : cellsZ c 2 n 0 = (((n + 7) / 8 : Nat) : Int) := by unfold cellsZ; rw [if_pos hz, if_pos rfl]; omega
  rw [hcl] at CL
  have hn := (checkZ_ok.1 hz).2.2.2.1
  have FR := Lib.hid (fun W (hW : Below w.heap.size w W) => free_any B h N free S M W (H.later hW))
  have HH := Lib.hid H
  obtain ⟨pn, hpn, hpl⟩ : ∃ pn : Nat, packZ 2 n 0 false = (pn : Int) ∧ pn < 18446744073709551616 := by
    have hp : packZ 2 n 0 false = (n : Int) + 8589934592 := by unfold packZ; rw [if_neg (by decide)]; omega
    exact ⟨n + 8589934592, by rw [hp]; omega, by omega⟩
  have hpt : (packZ 2 n 0 false).toNat = pn := by rw [hpn, Int.toNat_natCast]
  rw [hpt]
  rw [hpn] at PK
  clear hpt hz hpn
  clear hcl
  generalize hm : (n + 7) / 8 = m at *
  have HM := Lib.hid hm
  clear H hm
  go_enter Tryd.func13, Tryd.ntmps13
  go_wp2_with fail
  refine (PK.out _).mono ?_
  rintro e w1 ⟨rfl, hg⟩
  have hb1 : Below w.heap.size w w1 := ((Below.refl _ w).alloc (Nat.le_refl _) _).trans (hg.mono (by simp))
  have hs1 := hg.size
  simp at hs1
  have hlt1 : w.heap.size < w1.heap.size := by omega
  have hx : w1.heap[w.heap.size]? = some (.cells #[.int .u64 (c : Int), .int .i64 2, .int .i64 (n : Int), .int .u32 0, .bool false] 52 (0, 0)) := by
    rw [hg.block w.heap.size (by simp)]; exact heap_alloc_new w _
  have x0 : w1.cell? ⟨w.heap.size, 0, none⟩ = some (.int .u64 (c : Int)) := (cellO hx 0).trans rfl
  have x1 : w1.cell? ⟨w.heap.size, 1, none⟩ = some (.int .i64 2) := (cellO hx 1).trans rfl
  have x2 : w1.cell? ⟨w.heap.size, 2, none⟩ = some (.int .i64 (n : Int)) := (cellO hx 2).trans rfl
  have x3 : w1.cell? ⟨w.heap.size, 3, none⟩ = some (.int .u32 0) := (cellO hx 3).trans rfl
  have x4 : w1.cell? ⟨w.heap.size, 4, none⟩ = some (.bool false) := (cellO hx 4).trans rfl
  have HB1 := Lib.hid hb1
  clear hg hx hb1
  go_wp2_with fail
  refine (CL.out _).mono ?_
  rintro e w2 ⟨rfl, hg⟩
  have hb2 : Below w.heap.size w w2 := (HB1.out.alloc (by omega) _).trans (hg.mono (by simp; omega))
  have hs2 := hg.size
  simp at hs2
  have hlt2 : w1.heap.size < w2.heap.size := by omega
  have hy : w2.heap[w1.heap.size]? = some (.cells #[.int .u64 (c : Int), .int .u64 (pn : Int)] 95 (0, 0)) := by
    rw [hg.block w1.heap.size (by simp)]; exact heap_alloc_new w1 _
  have HY := Lib.hid hy
  have HB2 := Lib.hid hb2
  clear hg hy hb2 x0 x1 x2 x3 x4
  go_wp2_with fail
  refine (FR.out w2 HB2.out).mono ?_
  rintro e w3 ⟨rfl, hg⟩
  have hy : w3.heap[w1.heap.size]? = some (.cells #[.int .u64 (c : Int), .int .u64 (pn : Int)] 95 (0, 0)) := by
    rw [hg.block w1.heap.size hlt2]; exact HY.out
  have y0 : w3.cell? ⟨w1.heap.size, 0, none⟩ = some (.int .u64 (c : Int)) := (cellO hy 0).trans rfl
  have y1 : w3.cell? ⟨w1.heap.size, 1, none⟩ = some (.int .u64 (pn : Int)) := (cellO hy 1).trans rfl
  have hs3 := hg.size
  have HB3 := Lib.hid (HB2.out.trans (hg.mono HB2.out.size))
  have hlt3 : w1.heap.size < w3.heap.size := by omega
  clear hg hy
  have q1 : ¬ ((N - free : Nat) : Int) < 2 + (m : Int) := by omega
  have H3 := HH.out.later HB3.out
  obtain ⟨c1, -, hlh, -, -⟩ := H3.freed
  have PT := Lib.hid (put_only B h N free free c pn S M w3 H3 (by have := HB3.out.size; omega) (by omega) hc hpl)
  clear H3
  go_wp2_with fail
  all_goals (try (exfalso; go_light; omega))
  refine PT.out.mono ?_
  rintro e w4 ⟨rfl, hh4, hg4, hst4⟩
  have HT := Lib.hid ((Stays.below HB3.out).trans hst4)
  clear hst4
  have HB4 := Lib.hid ((HB3.out.mono hB).trans hg4 : Below B w w4)
  obtain ⟨s, s0, hl4, hbits, hnew⟩ := hh4.bits
  have hws := HB4.out.size
  have SK := Lib.hid (set_only B s N S (free : Int) true w4 hbits (by omega))
  have HNEW := Lib.hid hnew
  have S0 := Lib.hid s0
  clear hh4 hg4 y0 y1 c1 hbits hnew
  go_wp2_with fail
  refine SK.out.mono ?_
  rintro e w5 ⟨rfl, hb5, hg5, hk5, ho5⟩
  have HT5 := Lib.hid ((HT.out.trans (Stays.bits S0.out hg5.size hk5 ho5)).trans (Stays.setH (v := .int .i64 ((free + 2 + m : Nat) : Int))))
  clear ho5
  have h5 := HNEW.out w5 _ hb5 hk5
  obtain ⟨c1, f1, hl5, hBh, hset⟩ := h5.freed
  have HS5 := Lib.hid (hset (free + 2 + m) (by omega))
  have HB5 := Lib.hid ((HB4.out.trans hg5).setCell (p := ⟨h, 1, none⟩) hBh (.int .i64 ((free + 2 + m : Nat) : Int)))
  have PTR := Lib.hid (fun W => ptr_yes (free : Int) (by omega) (by omega) W)
  clear h5 hset hb5 hg5 hk5
  go_wp2_with fail
  refine (PTR.out _).mono ?_
  rintro e w6 ⟨rfl, hw6⟩
  subst hw6
  go_wp2_with fail
  refine bodyPost_ret (v := .tuple #[.int .u64 (free * 2 : Int), .int .i64 0]) (by simp [results, Tryd.results13, go_sem]) rfl ⟨rfl, ?_, ?_, ?_⟩
  · rw [show ((free : Int) + (2 + (m : Int))) = ((free + 2 + m : Nat) : Int) by omega]; exact HS5.out
  · rw [show ((free : Int) + (2 + (m : Int))) = ((free + 2 + m : Nat) : Int) by omega]; exact HB5.out
  · rw [show ((free : Int) + (2 + (m : Int))) = ((free + 2 + m : Nat) : Int) by omega]; exact HT5.out
theorem alloc_raw (B h N free c n f : Nat) (S : Nat → Bool) (M : Nat → Nat) (w : World) (H : HeapAt w B h N free S M) (hB : B ≤ w.heap.size) (hc : c < 18446744073709551616) (hz : checkZ c 2 n 0 = 0) (hfit : free + (n + 7) / 8 + 2 ≤ N) (h2 : 2 ≤ free) :
    Calls Tryd.prog 13 #[.pointer (some ⟨h, 0, none⟩), .int .u64 (c : Int), .int .i64 2, .int .i64 (n : Int), .int .u64 (f : Int)] w fun e w' => e = .returned (.tuple #[.int .u64 (free * 2 : Int), .int .i64 0]) ∧ HeapAt w' B h N (free + 2 + (n + 7) / 8) (setS N S (free : Int) true) (put2 M free c (packZ 2 n 0 false).toNat) ∧ Below B w w' :=
  (raw_only B h N free c n f S M w H hB hc hz hfit h2).mono fun _ _ h => ⟨h.1, h.2.1, h.2.2.1⟩
set_option maxRecDepth 100000 in
theorem find_raw (B h N free a : Nat) (i : Int) (S : Nat → Bool) (M : Nat → Nat) (w : World) (H : HeapAt w B h N free S M) (a0 : 1 ≤ a) (ha : a + 2 ≤ N) (hS' : S a = true) (hok : UnOK (M a) (M (a + 1))) (hk : hK (M (a + 1)) = 2) :
    Calls Tryd.prog 45 #[.pointer (some ⟨h, 0, none⟩), .int .u64 (a * 2 : Int), .int .i64 i, .bool true] w fun e w' => e = .returned (.tuple (if 0 ≤ i ∧ i < hS (M (a + 1)) then #[.int .i64 ((a : Int) + 2 + i / 8), .int .i64 0] else #[.int .i64 0, .int .i64 6])) ∧ Below w.heap.size w w' := by
  have hN : N ≤ 16777216 := by obtain ⟨g, s, -, -, h3, -⟩ := H; exact h3
  have A := Lib.hid (hat_yes B h N free a S M w H a0 (by omega))
  rw [hS'] at A
  have HD := Lib.hid (fun W (hW : Below w.heap.size w W) => hhead_yes B h N free a S M W (H.later hW) ha hok)
  rw [hk] at HD
  have hlim : hS (M (a + 1)) ≤ 1048576 := hok.2.2.1
  clear H hok hk
  generalize hS (M (a + 1)) = vs at *
  generalize hH (M (a + 1)) = vh at *
  generalize hM (M (a + 1)) = vm at *
  by_cases hin : 0 ≤ i ∧ i < vs
  · rw [if_pos hin]
    obtain ⟨hin0, hin1⟩ := hin
    go_enter Tryd.func45, Tryd.ntmps45
    go_wp2_with fail
    refine A.out.mono ?_
    rintro e w1 ⟨rfl, hg1⟩
    have HG1 := Lib.hid hg1; clear hg1
    go_wp2_with fail
    refine (HD.out w1 HG1.out).mono ?_
    rintro e w2 ⟨rfl, hg2⟩
    have HG2 := Lib.hid (HG1.out.trans (hg2.mono HG1.out.size)); clear hg2
    go_wp2_with fail
    all_goals (try (exfalso; go_light; omega))
    refine bodyPost_ret (v := .tuple #[.int .i64 ((a : Int) + 2 + i / 8), .int .i64 0]) (by simp [results, Tryd.results45, go_sem]) rfl ⟨rfl, ?_⟩
    exact HG2.out.alloc HG2.out.size _
  · rw [if_neg hin]
    have hin' : 0 ≤ i → ¬ i < vs := by omega
    clear hin
    go_enter Tryd.func45, Tryd.ntmps45
    go_wp2_with fail
    refine A.out.mono ?_
    rintro e w1 ⟨rfl, hg1⟩
    have HG1 := Lib.hid hg1; clear hg1
    go_wp2_with fail
    refine (HD.out w1 HG1.out).mono ?_
    rintro e w2 ⟨rfl, hg2⟩
    have HG2 := Lib.hid (HG1.out.trans (hg2.mono HG1.out.size)); clear hg2
    go_wp2_with fail
    all_goals (try (exfalso; go_light; omega))
    all_goals refine bodyPost_ret (v := .tuple #[.int .i64 0, .int .i64 6]) (by simp [results, Tryd.results45, go_sem]) rfl ⟨rfl, ?_⟩
    all_goals exact HG2.out.alloc HG2.out.size _
end Go.Proofs.YtobajnodckiohaaDoor
namespace Go.Proofs.YtobajnodckiohaaDoor
open Go.RowKit
set_option linter.unusedVariables false
def putM (M : Nat → Nat) (a i c : Nat) : Nat → Nat := fun j => if j = a + 2 + i / 8 then putIn (M (a + 2 + i / 8)) (i % 8) c else M j
/-- an object of n bytes at a place -/
def IsRaw (S : Nat → Bool) (M : Nat → Nat) (N a n : Nat) : Prop := 1 ≤ a ∧ a + 2 + (n + 7) / 8 ≤ N ∧ S a = true ∧ UnOK (M a) (M (a + 1)) ∧ hK (M (a + 1)) = 2 ∧ hS (M (a + 1)) = (n : Int)
theorem IsRaw.put {S : Nat → Bool} {M : Nat → Nat} {N a n i c : Nat} (h : IsRaw S M N a n) : IsRaw S (putM M a i c) N a n := by
  obtain ⟨h1, h2, h3, h4, h5, h6⟩ := h
  have e0 : putM M a i c a = M a := by unfold putM; rw [if_neg (by omega)]
  have e1 : putM M a i c (a + 1) = M (a + 1) := by unfold putM; rw [if_neg (by omega)]
  exact ⟨h1, h2, h3, by rw [e0, e1]; exact h4, by rw [e1]; exact h5, by rw [e1]; exact h6⟩
theorem HeapAt.typed {w : World} {B h N free g : Nat} {S : Nat → Bool} {M : Nat → Nat} (H : HeapAt w B h N free S M) (hg : w.cell? ⟨h, 0, none⟩ = some (.slice (some ⟨g, 0, none⟩) N N)) : ∃ c fr, w.heap[g]? = some (.cells c 38 fr) := by
  obtain ⟨g', s, h1, h2, h3, h3', h4, h5, h6, h7, h8⟩ := H
  have : w.cell? ⟨h, 0, none⟩ = some (.slice (some ⟨g', 0, none⟩) N N) := by simp [World.cell?, h5]
  rw [this] at hg
  injection hg with hg
  injection hg with hg _ _
  injection hg with hg
  injection hg with hg _ _
  subst hg
  obtain ⟨c, hc, -⟩ := h6
  exact ⟨c, _, hc⟩
theorem HeapAt.keeps {w w' : World} {B h N free : Nat} {S : Nat → Bool} {M : Nat → Nat} {T : TypeId} (H : HeapAt w B h N free S M) (hk : KeepsBut T w w') (t1 : 72 ≠ T) (t2 : 38 ≠ T) (t3 : 117 ≠ T) (t4 : 37 ≠ T) : HeapAt w' B h N free S M := by
  obtain ⟨g, s, h1, h2, h3, h3', h4, h5, h6, h7, h8⟩ := H
  exact ⟨g, s, h1, h2, h3, h3', h4, by rw [hk h _ _ _ h5 t1]; exact h5, hk.row h6 t2, h7, h8.keeps hk t3 t4⟩
set_option maxRecDepth 100000 in
theorem byte_any (B h N free a n i : Nat) (S : Nat → Bool) (M : Nat → Nat) (w : World) (H : HeapAt w B h N free S M) (R : IsRaw S M N a n) (hi : i < n) :
    Calls Tryd.prog 63 #[.pointer (some ⟨h, 0, none⟩), .int .u64 (a * 2 : Int), .int .i64 (i : Int)] w fun e w' => e = .returned (.tuple #[.int .u8 (byteIn (M (a + 2 + i / 8)) (i % 8) : Int), .int .i64 0]) ∧ Below w.heap.size w w' := by
  obtain ⟨r1, r2, r3, r4, r5, r6⟩ := R
  have F := Lib.hid (find_raw B h N free a (i : Int) S M w H r1 (by omega) r3 r4 r5)
  rw [r6, if_pos ⟨by omega, by omega⟩] at F
  have hN : N ≤ 16777216 := by obtain ⟨g, s, -, -, h3, -⟩ := H; exact h3
  have HH := Lib.hid H
  clear H r3 r4 r5 r6
  have hq : a + 2 + i / 8 < N := by omega
  obtain ⟨q, hqe⟩ : ∃ q, a + 2 + i / 8 = q := ⟨_, rfl⟩
  have hqi : (a : Int) + 2 + (i : Int) / 8 = (q : Int) := by omega
  obtain ⟨r, hre⟩ : ∃ r, i % 8 = r := ⟨_, rfl⟩
  have hri : (i : Int) % 8 = (r : Int) := by omega
  have hr : r < 8 := by omega
  have hby : ((M q : Int) / 2 ^ (8 * r)) % 256 = (byteIn (M q) r : Int) := by unfold byteIn; simp
  rw [hqi] at F
  rw [hqe] at hq
  rw [hqe, hre]
  have HBY := Lib.hid hby
  clear hqe hre hqi hby
  go_enter Tryd.func63, Tryd.ntmps63
  go_wp2_with fail
  refine F.out.mono ?_
  rintro e w1 ⟨rfl, hg⟩
  have h1 := HH.out.later hg
  obtain ⟨g, g0, gB, gl, hl, gc, gf, -⟩ := h1.store q hq
  have HG := Lib.hid hg
  clear h1 hg
  go_wp2_with fail
  all_goals (try (exfalso; go_light; omega))
  refine bodyPost_ret (v := .tuple #[.int .u8 (byteIn (M q) r : Int), .int .i64 0]) (by simp [results, Tryd.results63, go_sem, HBY.out]) rfl ⟨rfl, HG.out⟩
end Go.Proofs.YtobajnodckiohaaDoor
namespace Go.Proofs.YtobajnodckiohaaDoor
open Go.RowKit
set_option linter.unusedVariables false
theorem bytes_of_row {w : World} {g m cap : Nat} {f : Nat → Value} {L : List UInt8} (h : w.rowIs g 5 m f) (hm : L.length ≤ m) (hf : ∀ i (hi : i < L.length), f i = .int .u8 (L[i].toNat : Int)) (hc : L.length ≤ cap) (hcm : cap ≤ maxLen) : BytesAt w (.slice (some ⟨g, 0, none⟩) L.length cap) L := by
  refine ⟨_, cap, rfl, hc, hcm, Or.inr ⟨g, 0, rfl, fun j hj => ?_⟩, fun h => by cases h⟩
  rw [Lib.byteCells_length] at hj
  rw [Nat.zero_add, h.cell (by omega), hf j hj]
  simp [Lib.byteCells, hj]
set_option maxRecDepth 100000 in
theorem hHead_yes (B h N free a : Nat) (S : Nat → Bool) (M : Nat → Nat) (w : World) (H : HeapAt w B h N free S M) (a0 : 1 ≤ a) (ha : a + 2 ≤ N) (hS' : S a = true) (hok : UnOK (M a) (M (a + 1))) :
    Calls Tryd.prog 10 #[.pointer (some ⟨h, 0, none⟩), .int .u64 (a * 2 : Int)] w fun e w' => e = .returned (.tuple #[.agg #[.int .u64 (M a : Int), .int .i64 (hK (M (a + 1))), .int .i64 (hS (M (a + 1))), .int .u32 (hH (M (a + 1))), .bool (hM (M (a + 1)))], .int .i64 0]) ∧ Below w.heap.size w w' := by
  have hN : N ≤ 16777216 := by obtain ⟨g, s, -, -, h3, -⟩ := H; exact h3
  have A := Lib.hid (fun W (hW : Below w.heap.size w W) => hat_yes B h N free a S M W (H.later hW) a0 (by omega))
  rw [hS'] at A
  have HD := Lib.hid (fun W (hW : Below w.heap.size w W) => hhead_yes B h N free a S M W (H.later hW) ha hok)
  clear H hok
  generalize hK (M (a + 1)) = vk at *
  generalize hS (M (a + 1)) = vs at *
  generalize hH (M (a + 1)) = vh at *
  generalize hM (M (a + 1)) = vm at *
  have hz0 : Below w.heap.size w (w.alloc (.cells #[.int .u64 0, .int .i64 0, .int .i64 0, .int .u32 0, .bool false] 52)) := (Below.refl _ w).alloc (Nat.le_refl _) _
  have HZ0 := Lib.hid hz0; clear hz0
  go_enter Tryd.func10, Tryd.ntmps10
  go_wp2_with fail
  refine (A.out _ HZ0.out).mono ?_
  rintro e w1 ⟨rfl, hg1⟩
  have hx1 : w1.heap[w.heap.size]? = some (.cells #[.int .u64 0, .int .i64 0, .int .i64 0, .int .u32 0, .bool false] 52 (0, 0)) := by
    rw [hg1.block w.heap.size (by simp)]; exact heap_alloc_new w _
  have hl1 : w.heap.size < w1.heap.size := (Array.getElem?_eq_some_iff.1 hx1).1
  have HX1 := Lib.hid hx1
  have HG1 := Lib.hid (HZ0.out.trans (hg1.mono (by simp)) : Below w.heap.size w w1)
  clear hg1 hx1
  go_wp2_with fail
  refine (HD.out w1 HG1.out).mono ?_
  rintro e w2 ⟨rfl, hg2⟩
  have hx2 : w2.heap[w.heap.size]? = some (.cells #[.int .u64 0, .int .i64 0, .int .i64 0, .int .u32 0, .bool false] 52 (0, 0)) := by
    rw [hg2.block w.heap.size hl1]; exact HX1.out
  have hlw : w.heap.size < w2.heap.size := (Array.getElem?_eq_some_iff.1 hx2).1
  have z0 : w2.cell? ⟨w.heap.size, 0, none⟩ = _ := cellO hx2 0
  have z1 : w2.cell? ⟨w.heap.size, 1, none⟩ = _ := cellO hx2 1
  have z2 : w2.cell? ⟨w.heap.size, 2, none⟩ = _ := cellO hx2 2
  have z3 : w2.cell? ⟨w.heap.size, 3, none⟩ = _ := cellO hx2 3
  have z4 : w2.cell? ⟨w.heap.size, 4, none⟩ = _ := cellO hx2 4
  have y : ∀ j, w2.frozen? ⟨w.heap.size, j, none⟩ = false := fun j => by unfold World.frozen?; rw [hx2]; cases j <;> rfl
  simp at z0 z1 z2 z3 z4
  have HG2 := Lib.hid (HG1.out.trans (hg2.mono HG1.out.size) : Below w.heap.size w w2)
  clear hg2 hx2
  go_wp2_with fail
  refine bodyPost_ret (v := .tuple #[.agg #[.int .u64 (M a : Int), .int .i64 vk, .int .i64 vs, .int .u32 vh, .bool vm], .int .i64 0]) (by simp [results, Tryd.results10, go_sem, z0, z1, z2, z3, z4]) rfl ⟨rfl, ?_⟩
  have hb := HG2.out
  repeat (first | with_reducible exact Below.refl _ _ | ((with_reducible refine Below.setCell ?_ ?_ _); rotate_left; focus (first | (simp; done) | (simp; omega) | omega)) | ((with_reducible refine Below.alloc ?_ ?_ _); rotate_left; focus (first | (simp; done) | (simp; omega) | omega)) | (with_reducible refine Below.drew ?_) | ((with_reducible refine Below.trans ?_ (Below.mono hb ?_)); rotate_left; focus (first | (simp; done) | (simp; omega) | omega)))
/-- what an object's bytes are -/
def rawL (M : Nat → Nat) (a n : Nat) : List UInt8 := (List.range n).map fun i => UInt8.ofNat (byteIn (M (a + 2 + i / 8)) (i % 8))
theorem rawL_len (M : Nat → Nat) (a n : Nat) : (rawL M a n).length = n := by simp [rawL]
set_option maxRecDepth 100000 in
theorem bytes_any (B h N free a n : Nat) (S : Nat → Bool) (M : Nat → Nat) (w : World) (H : HeapAt w B h N free S M) (R : IsRaw S M N a n) (hn : n ≤ 1000000) :
    Calls Tryd.prog 54 #[.pointer (some ⟨h, 0, none⟩), .int .u64 (a * 2 : Int)] w fun e w' => ∃ v, e = .returned (.tuple #[v, .int .i64 0]) ∧ BytesAt w' v (rawL M a n) ∧ Below w.heap.size w w' := by
  have RR := Lib.hid R
  obtain ⟨r1, r2, r3, r4, r5, r6⟩ := R
  have HD := Lib.hid (hHead_yes B h N free a S M w H r1 (by omega) r3 r4)
  rw [r5, r6] at HD
  have BY := Lib.hid (fun W i (hW : Below w.heap.size w W) (hi : i < n) => byte_any B h N free a n i S M W (H.later hW) RR.out hi)
  clear H r3 r4 r5 r6
  generalize hH (M (a + 1)) = vh at *
  generalize hM (M (a + 1)) = vm at *
  have hmk : ∀ W, (Instr.makeSlice 41 (.int .i64 (n : Int)) (.int .i64 (n : Int))).run Tryd.prog W = .ok (.slice (some ⟨W.heap.size, 0, none⟩) n n) (W.alloc (.cells (madeCells #[.int .u8 0] n) 5)) :=
    fun W => run_make_row' (P := Tryd.prog) 41 5 (.int .u8 0) 1 Tryd.underlying41 byteInfo rfl .i64 .i64 n (by omega) (by omega) W
  go_enter Tryd.func54, Tryd.ntmps54
  go_wp2_with fail
  refine HD.out.mono ?_
  rintro e w1 ⟨rfl, hg⟩
  have HG1 := Lib.hid hg; clear hg
  have hs1 := HG1.out.size
  have HR0 := Lib.hid (show ((w1.alloc (.cells #[.int .u64 (M a : Int), .int .i64 2, .int .i64 (n : Int), .int .u32 vh, .bool vm] 52)).alloc (.cells (madeCells #[.int .u8 0] n) 5)).rowIs (w1.heap.size + 1) 5 n (fun _ => .int .u8 0) from by
    have := World.rowIs_made (w1.alloc (.cells #[.int .u64 (M a : Int), .int .i64 2, .int .i64 (n : Int), .int .u32 vh, .bool vm] 52)) (.int .u8 0) n 5
    rw [show (w1.alloc (.cells #[.int .u64 (M a : Int), .int .i64 2, .int .i64 (n : Int), .int .u32 vh, .bool vm] 52)).heap.size = w1.heap.size + 1 by simp] at this
    exact this)
  have HB0 := Lib.hid (show Below w.heap.size w ((w1.alloc (.cells #[.int .u64 (M a : Int), .int .i64 2, .int .i64 (n : Int), .int .u32 vh, .bool vm] 52)).alloc (.cells (madeCells #[.int .u8 0] n) 5)) from (HG1.out.alloc hs1 _).alloc (by simp; omega) _)
  have hgw : w.heap.size ≤ w1.heap.size + 1 := by omega
  go_wp2_with fail
  generalize w1.heap.size + 1 = g0 at *
  go_loopg [27] n (fun gg j wr => ∃ k : Nat, gg = n - k ∧ k ≤ n ∧ j = .int .i64 k ∧ wr.rowIs g0 5 n (fun i => if i < k then .int .u8 (byteIn (M (a + 2 + i / 8)) (i % 8) : Int) else .int .u8 0) ∧ Below w.heap.size w wr)
  case atStart => exact ⟨0, rfl, by omega, rfl, HR0.out.congr fun i hi => by rw [if_neg (by omega)], HB0.out⟩
  case round =>
    obtain ⟨k, hgk, hk, rfl, hr, hb⟩ := hrel
    have HK := Lib.hid hgk; have HB := Lib.hid hb; have HR := Lib.hid hr; clear hgk
    by_cases hlt : k < n
    · have hlg := hr.lt
      have B1 := Lib.hid (BY.out wr k hb hlt)
      clear hr hb
      go_wp2_with fail
      refine B1.out.mono ?_
      rintro e w3 ⟨rfl, hg3⟩
      have hr3 := HR.out.of_block (hg3.block g0 hlg)
      have hc3 := hr3.cell hlt
      rw [if_neg (by omega)] at hc3
      have hf3 := hr3.frozen k
      have hl3 := hr3.lt
      have HR3 := Lib.hid ((hr3.set k (.int .u8 (byteIn (M (a + 2 + k / 8)) (k % 8) : Int))).congr (g := fun i => if i < k + 1 then .int .u8 (byteIn (M (a + 2 + i / 8)) (i % 8) : Int) else .int .u8 0) fun i hi => by
        by_cases e : i = k
        · subst e; rw [if_pos rfl, if_pos (by omega)]
        · rw [if_neg e]
          by_cases e2 : i < k
          · rw [if_pos e2, if_pos (by omega)]
          · rw [if_neg e2, if_neg (by omega)])
      have HB3 := Lib.hid ((HB.out.trans (hg3.mono HB.out.size)).setCell (p := ⟨g0, k, none⟩) hgw (.int .u8 (byteIn (M (a + 2 + k / 8)) (k % 8) : Int)))
      clear hr3 hg3
      generalize byteIn (M (a + 2 + k / 8)) (k % 8) = bv at *
      go_wp2_with fail
      go_roundg (n - (k + 1))
      case measure => rw [HK.out]; omega
      case rel => exact ⟨k + 1, rfl, by omega, by go_num, HR3.out, HB3.out⟩
    · obtain rfl : k = n := by omega
      have HBY := Lib.hid (bytes_of_row (cap := k) (L := rawL M a k) hr (by rw [rawL_len]; exact Nat.le_refl _) (fun i hi => by
        rw [rawL_len] at hi
        rw [if_pos hi]
        have hb := byteIn_lt (M (a + 2 + i / 8)) (i % 8)
        simp only [rawL, List.getElem_map, List.getElem_range]
        congr 1
        have : (UInt8.ofNat (byteIn (M (a + 2 + i / 8)) (i % 8))).toNat = byteIn (M (a + 2 + i / 8)) (i % 8) % 256 := by simp
        rw [this, Nat.mod_eq_of_lt hb]) (by rw [rawL_len]; exact Nat.le_refl _) (by unfold maxLen; omega))
      have hlen := rawL_len M a k
      clear hr hb
      go_wp2_with fail
      refine bodyPost_ret (v := .tuple #[.slice (some ⟨g0, 0, none⟩) k k, .int .i64 0]) (by simp [results, Tryd.results54, go_sem]) rfl ⟨_, rfl, ?_, HB.out⟩
      have := HBY.out
      rwa [hlen] at this
end Go.Proofs.YtobajnodckiohaaDoor
