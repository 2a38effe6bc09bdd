/- Memory: a new object of bytes; where its bytes lie. -/
import Derived.Test.YtfhkmbeokdfllaaHeapE
import Derived.Test.YtfhkmbeokdfllaaHeapPlain
namespace Go.Proofs.Ytfhkmbeokdfllaa
open Go.RowKit
set_option linter.unusedVariables false
set_option maxRecDepth 100000 in
theorem alloc_raw (B h N free c n f : Nat) (S : Nat → Bool) (M : Nat → Nat) (w : World) (H : HeapAt w B h N free S M) (hB : B ≤ w.heap.size) (hc : c < 18446744073709551616) (hz : checkZ c 2 n 0 = 0) (hfit : free + (n + 7) / 8 + 2 ≤ N) (h2 : 2 ≤ free) :
    Calls Try.prog 8 #[.pointer (some ⟨h, 0, none⟩), .int .u64 (c : Int), .int .i64 2, .int .i64 (n : Int), .int .u64 (f : Int)] w fun e w' => e = .returned (.tuple #[.int .u64 (free * 2 : Int), .int .i64 0]) ∧ HeapAt w' B h N (free + 2 + (n + 7) / 8) (setS N S (free : Int) true) (put2 M free c (packZ 2 n 0 false).toNat) ∧ Below B w w' := by
  have hfN : free ≤ N := by obtain ⟨g, s, -, -, -, -, h4, -⟩ := H; exact h4
  have hN : N ≤ 16777216 := by obtain ⟨g, s, -, -, h3, -⟩ := H; exact h3
  have PK := Lib.hid (fun W => pack_yes (c : Int) 2 n 0 false (by omega) (by omega) (by omega) hz W)
  have CL := Lib.hid (fun W => cells_any (c : Int) 2 n 0 false (by omega) (by omega) W)
  have hcl : cellsZ c 2 n 0 = (((n + 7) / 8 : Nat) : Int) := by unfold cellsZ; rw [if_pos hz, if_pos rfl]; omega
  rw [hcl] at CL
  have hn := (checkZ_ok.1 hz).2.2.2.1
  have FR := Lib.hid (fun W (hW : Below w.heap.size w W) => free_any B h N free S M W (H.later hW))
  have HH := Lib.hid H
  obtain ⟨pn, hpn, hpl⟩ : ∃ pn : Nat, packZ 2 n 0 false = (pn : Int) ∧ pn < 18446744073709551616 := by
    have hp : packZ 2 n 0 false = (n : Int) + 8589934592 := by unfold packZ; rw [if_neg (by decide)]; omega
    exact ⟨n + 8589934592, by rw [hp]; omega, by omega⟩
  have hpt : (packZ 2 n 0 false).toNat = pn := by rw [hpn, Int.toNat_natCast]
  rw [hpt]
  rw [hpn] at PK
  clear hpt hz hpn
  clear hcl
  generalize hm : (n + 7) / 8 = m at *
  have HM := Lib.hid hm
  clear H hm
  go_enter Try.func8, Try.ntmps8
  go_wp2_with fail
  refine (PK.out _).mono ?_
  rintro e w1 ⟨rfl, hg⟩
  have hb1 : Below w.heap.size w w1 := ((Below.refl _ w).alloc (Nat.le_refl _) _).trans (hg.mono (by simp))
  have hs1 := hg.size
  simp at hs1
  have hlt1 : w.heap.size < w1.heap.size := by omega
  have hx : w1.heap[w.heap.size]? = some (.cells #[.int .u64 (c : Int), .int .i64 2, .int .i64 (n : Int), .int .u32 0, .bool false] 56 (0, 0)) := by
    rw [hg.block w.heap.size (by simp)]; exact heap_alloc_new w _
  have x0 : w1.cell? ⟨w.heap.size, 0, none⟩ = some (.int .u64 (c : Int)) := (cellO hx 0).trans rfl
  have x1 : w1.cell? ⟨w.heap.size, 1, none⟩ = some (.int .i64 2) := (cellO hx 1).trans rfl
  have x2 : w1.cell? ⟨w.heap.size, 2, none⟩ = some (.int .i64 (n : Int)) := (cellO hx 2).trans rfl
  have x3 : w1.cell? ⟨w.heap.size, 3, none⟩ = some (.int .u32 0) := (cellO hx 3).trans rfl
  have x4 : w1.cell? ⟨w.heap.size, 4, none⟩ = some (.bool false) := (cellO hx 4).trans rfl
  have HB1 := Lib.hid hb1
  clear hg hx hb1
  go_wp2_with fail
  refine (CL.out _).mono ?_
  rintro e w2 ⟨rfl, hg⟩
  have hb2 : Below w.heap.size w w2 := (HB1.out.alloc (by omega) _).trans (hg.mono (by simp; omega))
  have hs2 := hg.size
  simp at hs2
  have hlt2 : w1.heap.size < w2.heap.size := by omega
  have hy : w2.heap[w1.heap.size]? = some (.cells #[.int .u64 (c : Int), .int .u64 (pn : Int)] 57 (0, 0)) := by
    rw [hg.block w1.heap.size (by simp)]; exact heap_alloc_new w1 _
  have HY := Lib.hid hy
  have HB2 := Lib.hid hb2
  clear hg hy hb2 x0 x1 x2 x3 x4
  go_wp2_with fail
  refine (FR.out w2 HB2.out).mono ?_
  rintro e w3 ⟨rfl, hg⟩
  have hy : w3.heap[w1.heap.size]? = some (.cells #[.int .u64 (c : Int), .int .u64 (pn : Int)] 57 (0, 0)) := by
    rw [hg.block w1.heap.size hlt2]; exact HY.out
  have y0 : w3.cell? ⟨w1.heap.size, 0, none⟩ = some (.int .u64 (c : Int)) := (cellO hy 0).trans rfl
  have y1 : w3.cell? ⟨w1.heap.size, 1, none⟩ = some (.int .u64 (pn : Int)) := (cellO hy 1).trans rfl
  have hs3 := hg.size
  have HB3 := Lib.hid (HB2.out.trans (hg.mono HB2.out.size))
  have hlt3 : w1.heap.size < w3.heap.size := by omega
  clear hg hy
  have q1 : ¬ ((N - free : Nat) : Int) < 2 + (m : Int) := by omega
  have H3 := HH.out.later HB3.out
  obtain ⟨c1, -, hlh, -, -⟩ := H3.freed
  have PT := Lib.hid (put_cells B h N free free c pn S M w3 H3 (by have := HB3.out.size; omega) (by omega) hc hpl)
  clear H3
  go_wp2_with fail
  all_goals (try (exfalso; go_light; omega))
  refine PT.out.mono ?_
  rintro e w4 ⟨rfl, hh4, hg4⟩
  have HB4 := Lib.hid ((HB3.out.mono hB).trans hg4 : Below B w w4)
  obtain ⟨s, s0, hl4, hbits, hnew⟩ := hh4.bits
  have hws := HB4.out.size
  have SK := Lib.hid (set_keep B s N S (free : Int) true w4 hbits (by omega))
  have HNEW := Lib.hid hnew
  clear hh4 hg4 y0 y1 c1 hbits hnew
  go_wp2_with fail
  refine SK.out.mono ?_
  rintro e w5 ⟨rfl, hb5, hg5, hk5⟩
  have h5 := HNEW.out w5 _ hb5 hk5
  obtain ⟨c1, f1, hl5, hBh, hset⟩ := h5.freed
  have HS5 := Lib.hid (hset (free + 2 + m) (by omega))
  have HB5 := Lib.hid ((HB4.out.trans hg5).setCell (p := ⟨h, 1, none⟩) hBh (.int .i64 ((free + 2 + m : Nat) : Int)))
  have PTR := Lib.hid (fun W => ptr_yes (free : Int) (by omega) (by omega) W)
  clear h5 hset hb5 hg5 hk5
  go_wp2_with fail
  refine (PTR.out _).mono ?_
  rintro e w6 ⟨rfl, hw6⟩
  subst hw6
  go_wp2_with fail
  refine bodyPost_ret (v := .tuple #[.int .u64 (free * 2 : Int), .int .i64 0]) (by simp [results, Try.results8, go_sem]) rfl ⟨rfl, ?_, ?_⟩
  · rw [show ((free : Int) + (2 + (m : Int))) = ((free + 2 + m : Nat) : Int) by omega]; exact HS5.out
  · rw [show ((free : Int) + (2 + (m : Int))) = ((free + 2 + m : Nat) : Int) by omega]; exact HB5.out
set_option maxRecDepth 100000 in
theorem find_raw (B h N free a : Nat) (i : Int) (S : Nat → Bool) (M : Nat → Nat) (w : World) (H : HeapAt w B h N free S M) (a0 : 1 ≤ a) (ha : a + 2 ≤ N) (hS' : S a = true) (hok : UnOK (M a) (M (a + 1))) (hk : hK (M (a + 1)) = 2) :
    Calls Try.prog 29 #[.pointer (some ⟨h, 0, none⟩), .int .u64 (a * 2 : Int), .int .i64 i, .bool true] w fun e w' => e = .returned (.tuple (if 0 ≤ i ∧ i < hS (M (a + 1)) then #[.int .i64 ((a : Int) + 2 + i / 8), .int .i64 0] else #[.int .i64 0, .int .i64 6])) ∧ Below w.heap.size w w' := by
  have hN : N ≤ 16777216 := by obtain ⟨g, s, -, -, h3, -⟩ := H; exact h3
  have A := Lib.hid (hat_yes B h N free a S M w H a0 (by omega))
  rw [hS'] at A
  have HD := Lib.hid (fun W (hW : Below w.heap.size w W) => hhead_yes B h N free a S M W (H.later hW) ha hok)
  rw [hk] at HD
  have hlim : hS (M (a + 1)) ≤ 1048576 := hok.2.2.1
  clear H hok hk
  generalize hS (M (a + 1)) = vs at *
  generalize hH (M (a + 1)) = vh at *
  generalize hM (M (a + 1)) = vm at *
  by_cases hin : 0 ≤ i ∧ i < vs
  · rw [if_pos hin]
    obtain ⟨hin0, hin1⟩ := hin
    go_enter Try.func29, Try.ntmps29
    go_wp2_with fail
    refine A.out.mono ?_
    rintro e w1 ⟨rfl, hg1⟩
    have HG1 := Lib.hid hg1; clear hg1
    go_wp2_with fail
    refine (HD.out w1 HG1.out).mono ?_
    rintro e w2 ⟨rfl, hg2⟩
    have HG2 := Lib.hid (HG1.out.trans (hg2.mono HG1.out.size)); clear hg2
    go_wp2_with fail
    all_goals (try (exfalso; go_light; omega))
    refine bodyPost_ret (v := .tuple #[.int .i64 ((a : Int) + 2 + i / 8), .int .i64 0]) (by simp [results, Try.results29, go_sem]) rfl ⟨rfl, ?_⟩
    exact HG2.out.alloc HG2.out.size _
  · rw [if_neg hin]
    have hin' : 0 ≤ i → ¬ i < vs := by omega
    clear hin
    go_enter Try.func29, Try.ntmps29
    go_wp2_with fail
    refine A.out.mono ?_
    rintro e w1 ⟨rfl, hg1⟩
    have HG1 := Lib.hid hg1; clear hg1
    go_wp2_with fail
    refine (HD.out w1 HG1.out).mono ?_
    rintro e w2 ⟨rfl, hg2⟩
    have HG2 := Lib.hid (HG1.out.trans (hg2.mono HG1.out.size)); clear hg2
    go_wp2_with fail
    all_goals (try (exfalso; go_light; omega))
    all_goals refine bodyPost_ret (v := .tuple #[.int .i64 0, .int .i64 6]) (by simp [results, Try.results29, go_sem]) rfl ⟨rfl, ?_⟩
    all_goals exact HG2.out.alloc HG2.out.size _
end Go.Proofs.Ytfhkmbeokdfllaa
