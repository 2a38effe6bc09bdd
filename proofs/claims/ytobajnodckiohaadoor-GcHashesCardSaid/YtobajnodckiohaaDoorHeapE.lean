/- Memory: a new object of words. -/
import Derived.Test.YtobajnodckiohaaDoorHeapD
namespace Go.Proofs.YtobajnodckiohaaDoor
open Go.RowKit
set_option linter.unusedVariables false
theorem HeapAt.store {w : World} {B h N free : Nat} {S : Nat → Bool} {M : Nat → Nat} (H : HeapAt w B h N free S M) (i : Nat) (hi : i < N) :
    ∃ g, w.cell? ⟨h, 0, none⟩ = some (.slice (some ⟨g, 0, none⟩) N N) ∧ B ≤ g ∧ g < w.heap.size ∧ h < w.heap.size ∧ w.cell? ⟨g, i, none⟩ = some (.int .u64 (M i : Int)) ∧ w.frozen? ⟨g, i, none⟩ = false ∧
      ∀ v : Nat, v < 18446744073709551616 → HeapAt (w.setCell ⟨g, i, none⟩ (.int .u64 (v : Int))) B h N free S (fun j => if j = i then v else M j) := by
  obtain ⟨g, s, h1, h2, h3, h3', h4, h5, h6, h7, h8⟩ := H
  refine ⟨g, by simp [World.cell?, h5], h2, h6.lt, (Array.getElem?_eq_some_iff.1 h5).1, h6.cell hi, h6.frozen i, fun v hv => ?_⟩
  have hT : ∃ c fr, w.heap[g]? = some (.cells c 38 fr) := by obtain ⟨c, hc, -⟩ := h6; exact ⟨c, _, hc⟩
  have hk := (KeepsBut.refl 38 w).setCell (a := ⟨g, i, none⟩) (u := .int .u64 (v : Int)) hT
  refine ⟨g, s, h1, h2, h3, h3', h4, ?_, (h6.set i _).congr fun j hj => ?_, fun j => ?_, h8.keeps hk (by decide) (by decide)⟩
  · have e : (if 16777216 = i then v else M 16777216) = M 16777216 := if_neg (by omega)
    simp only [e]
    exact (hk h _ _ _ h5 (by decide)).trans h5
  · by_cases e : j = i
    · simp [e]
    · simp [e]
  · show (if j = i then v else M j) < _
    split
    · exact hv
    · exact h7 j
theorem HeapAt.bits {w : World} {B h N free : Nat} {S : Nat → Bool} {M : Nat → Nat} (H : HeapAt w B h N free S M) :
    ∃ s, w.cell? ⟨h, 2, none⟩ = some (.pointer (some ⟨s, 0, none⟩)) ∧ h < w.heap.size ∧ BitsAt w B s N S ∧ ∀ w' S', BitsAt w' B s N S' → KeepsBut 37 w w' → HeapAt w' B h N free S' M := by
  obtain ⟨g, s, h1, h2, h3, h3', h4, h5, h6, h7, h8⟩ := H
  exact ⟨s, by simp [World.cell?, h5], (Array.getElem?_eq_some_iff.1 h5).1, h8, fun w' S' hb hk => ⟨g, s, h1, h2, h3, h3', h4, (hk h _ _ _ h5 (by decide)).trans h5, hk.row h6 (by decide), h7, hb⟩⟩
theorem HeapAt.freed {w : World} {B h N free : Nat} {S : Nat → Bool} {M : Nat → Nat} (H : HeapAt w B h N free S M) :
    w.cell? ⟨h, 1, none⟩ = some (.int .i64 (free : Int)) ∧ w.frozen? ⟨h, 1, none⟩ = false ∧ h < w.heap.size ∧ B ≤ h ∧ ∀ free', free' ≤ N → HeapAt (w.setCell ⟨h, 1, none⟩ (.int .i64 (free' : Int))) B h N free' S M := by
  obtain ⟨g, s, h1, h2, h3, h3', h4, h5, h6, h7, h8⟩ := H
  have hl := (Array.getElem?_eq_some_iff.1 h5).1
  refine ⟨by simp [World.cell?, h5], by unfold World.frozen?; rw [h5]; rfl, hl, h1, fun free' hf => ?_⟩
  have hk := (KeepsBut.refl 72 w).setCell (a := ⟨h, 1, none⟩) (u := .int .i64 (free' : Int)) ⟨_, _, h5⟩
  exact ⟨g, s, h1, h2, h3, h3', hf, heap_setCell_same w h 1 _ _ _ h5, hk.row h6 (by decide), h7, h8.keeps hk (by decide) (by decide)⟩
def fillM (M : Nat → Nat) (o n v : Nat) : Nat → Nat := fun i => if o ≤ i ∧ i < o + n then v else M i
theorem fillM_zero (M : Nat → Nat) (o v : Nat) : fillM M o 0 v = M := by
  funext i; unfold fillM; rw [if_neg (by omega)]
theorem fillM_step (M : Nat → Nat) (o n v : Nat) : (fun j => if j = o + n then v else fillM M o n v j) = fillM M o (n + 1) v := by
  funext j; unfold fillM
  by_cases e : j = o + n
  · rw [if_pos e, if_pos (by omega)]
  · rw [if_neg e]
    by_cases e2 : o ≤ j ∧ j < o + n
    · rw [if_pos e2, if_pos (by omega)]
    · rw [if_neg e2, if_neg (by omega)]
set_option maxRecDepth 100000 in
theorem alloc_full (B h N free c n f : Nat) (k : Int) (S : Nat → Bool) (M : Nat → Nat) (w : World) (H : HeapAt w B h N free S M) (hB : B ≤ w.heap.size) (hc : c < 18446744073709551616) (hz : checkZ c k n 0 = 0) (hk : k ≠ 2) (hfull : N < free + n + 2) :
    Calls Tryd.prog 13 #[.pointer (some ⟨h, 0, none⟩), .int .u64 (c : Int), .int .i64 k, .int .i64 (n : Int), .int .u64 (f : Int)] w fun e w' => e = .returned (.tuple #[.int .u64 0, .int .i64 8]) ∧ Below w.heap.size w w' := by
  have hfN : free ≤ N := by obtain ⟨g, s, -, -, -, -, h4, -⟩ := H; exact h4
  have hN : N ≤ 16777216 := by obtain ⟨g, s, -, -, h3, -⟩ := H; exact h3
  have PK := Lib.hid (fun W => pack_yes (c : Int) k n 0 false (by omega) (by omega) (by omega) hz W)
  have CL := Lib.hid (fun W => cells_any (c : Int) k n 0 false (by omega) (by omega) W)
  have hcl : cellsZ c k n 0 = n := by unfold cellsZ; rw [if_pos hz, if_neg hk]
  rw [hcl] at CL
  have hn := (checkZ_ok.1 hz).2.2.2.1
  have FR := Lib.hid (fun W (hW : Below w.heap.size w W) => free_any B h N free S M W (H.later hW))
  have HH := Lib.hid H
  clear hz
  generalize packZ k n 0 false = pz at *
  clear H hcl
  go_enter Tryd.func13, Tryd.ntmps13
  go_wp2_with fail
  refine (PK.out _).mono ?_
  rintro e w1 ⟨rfl, hg⟩
  have hb1 : Below w.heap.size w w1 := ((Below.refl _ w).alloc (Nat.le_refl _) _).trans (hg.mono (by simp))
  have hs1 := hg.size
  simp at hs1
  have hlt1 : w.heap.size < w1.heap.size := by omega
  have hx : w1.heap[w.heap.size]? = some (.cells #[.int .u64 (c : Int), .int .i64 k, .int .i64 (n : Int), .int .u32 0, .bool false] 52 (0, 0)) := by
    rw [hg.block w.heap.size (by simp)]; exact heap_alloc_new w _
  have x0 : w1.cell? ⟨w.heap.size, 0, none⟩ = some (.int .u64 (c : Int)) := (cellO hx 0).trans rfl
  have x1 : w1.cell? ⟨w.heap.size, 1, none⟩ = some (.int .i64 k) := (cellO hx 1).trans rfl
  have x2 : w1.cell? ⟨w.heap.size, 2, none⟩ = some (.int .i64 (n : Int)) := (cellO hx 2).trans rfl
  have x3 : w1.cell? ⟨w.heap.size, 3, none⟩ = some (.int .u32 0) := (cellO hx 3).trans rfl
  have x4 : w1.cell? ⟨w.heap.size, 4, none⟩ = some (.bool false) := (cellO hx 4).trans rfl
  have HB1 := Lib.hid hb1
  clear hg hx hb1
  go_wp2_with fail
  refine (CL.out _).mono ?_
  rintro e w2 ⟨rfl, hg⟩
  have hb2 : Below w.heap.size w w2 := (HB1.out.alloc (by omega) _).trans (hg.mono (by simp; omega))
  have hs2 := hg.size
  simp at hs2
  have hlt2 : w1.heap.size < w2.heap.size := by omega
  have hy : w2.heap[w1.heap.size]? = some (.cells #[.int .u64 (c : Int), .int .u64 pz] 95 (0, 0)) := by
    rw [hg.block w1.heap.size (by simp)]; exact heap_alloc_new w1 _
  have HY := Lib.hid hy
  have HB2 := Lib.hid hb2
  clear hg hy hb2 x0 x1 x2 x3 x4
  go_wp2_with fail
  refine (FR.out w2 HB2.out).mono ?_
  rintro e w3 ⟨rfl, hg⟩
  have hy : w3.heap[w1.heap.size]? = some (.cells #[.int .u64 (c : Int), .int .u64 pz] 95 (0, 0)) := by
    rw [hg.block w1.heap.size hlt2]; exact HY.out
  have y0 : w3.cell? ⟨w1.heap.size, 0, none⟩ = some (.int .u64 (c : Int)) := (cellO hy 0).trans rfl
  have y1 : w3.cell? ⟨w1.heap.size, 1, none⟩ = some (.int .u64 pz) := (cellO hy 1).trans rfl
  have hs3 := hg.size
  have HB3 := Lib.hid (HB2.out.trans (hg.mono HB2.out.size))
  have hlt3 : w1.heap.size < w3.heap.size := by omega
  clear hg hy
  have q1 : ((N - free : Nat) : Int) < 2 + (n : Int) := by omega
  go_wp2_with fail
  all_goals (try (exfalso; go_light; omega))
  refine bodyPost_ret (v := .tuple #[.int .u64 0, .int .i64 8]) (by simp [results, Tryd.results13, go_sem]) rfl ⟨rfl, HB3.out⟩
set_option maxRecDepth 100000 in
theorem slots_only (B h N free c n f : Nat) (k : Int) (S : Nat → Bool) (M : Nat → Nat) (w : World) (H : HeapAt w B h N free S M) (hB : B ≤ w.heap.size) (hc : c < 18446744073709551616) (hz : checkZ c k n 0 = 0) (hk : k ≠ 2) (hf : f < 18446744073709551616) (hfit : free + n + 2 ≤ N) (h2 : 2 ≤ free) :
    Calls Tryd.prog 13 #[.pointer (some ⟨h, 0, none⟩), .int .u64 (c : Int), .int .i64 k, .int .i64 (n : Int), .int .u64 (f : Int)] w fun e w' => e = .returned (.tuple #[.int .u64 (free * 2 : Int), .int .i64 0]) ∧ HeapAt w' B h N (free + 2 + n) (setS N S (free : Int) true) (fillM (put2 M free c (packZ k n 0 false).toNat) (free + 2) n f) ∧ Below B w w' ∧ Stays h w w' := by
  have hfN : free ≤ N := by obtain ⟨g, s, -, -, -, -, h4, -⟩ := H; exact h4
  have hN : N ≤ 16777216 := by obtain ⟨g, s, -, -, h3, -⟩ := H; exact h3
  have PK := Lib.hid (fun W => pack_yes (c : Int) k n 0 false (by omega) (by omega) (by omega) hz W)
  have CL := Lib.hid (fun W => cells_any (c : Int) k n 0 false (by omega) (by omega) W)
  have hcl : cellsZ c k n 0 = n := by unfold cellsZ; rw [if_pos hz, if_neg hk]
  rw [hcl] at CL
  have hn := (checkZ_ok.1 hz).2.2.2.1
  have FR := Lib.hid (fun W (hW : Below w.heap.size w W) => free_any B h N free S M W (H.later hW))
  have HH := Lib.hid H
  obtain ⟨pn, hpn, hpl⟩ : ∃ pn : Nat, packZ k n 0 false = (pn : Int) ∧ pn < 18446744073709551616 := by
    have := checkZ_ok.1 hz
    refine ⟨(packZ k n 0 false).toNat, ?_, ?_⟩ <;> (unfold packZ; simp; omega)
  have hpt : (packZ k n 0 false).toNat = pn := by omega
  rw [hpt]
  rw [hpn] at PK
  clear hpt hz hpn
  clear H hcl
  go_enter Tryd.func13, Tryd.ntmps13
  go_wp2_with fail
  refine (PK.out _).mono ?_
  rintro e w1 ⟨rfl, hg⟩
  have hb1 : Below w.heap.size w w1 := ((Below.refl _ w).alloc (Nat.le_refl _) _).trans (hg.mono (by simp))
  have hs1 := hg.size
  simp at hs1
  have hlt1 : w.heap.size < w1.heap.size := by omega
  have hx : w1.heap[w.heap.size]? = some (.cells #[.int .u64 (c : Int), .int .i64 k, .int .i64 (n : Int), .int .u32 0, .bool false] 52 (0, 0)) := by
    rw [hg.block w.heap.size (by simp)]; exact heap_alloc_new w _
  have x0 : w1.cell? ⟨w.heap.size, 0, none⟩ = some (.int .u64 (c : Int)) := (cellO hx 0).trans rfl
  have x1 : w1.cell? ⟨w.heap.size, 1, none⟩ = some (.int .i64 k) := (cellO hx 1).trans rfl
  have x2 : w1.cell? ⟨w.heap.size, 2, none⟩ = some (.int .i64 (n : Int)) := (cellO hx 2).trans rfl
  have x3 : w1.cell? ⟨w.heap.size, 3, none⟩ = some (.int .u32 0) := (cellO hx 3).trans rfl
  have x4 : w1.cell? ⟨w.heap.size, 4, none⟩ = some (.bool false) := (cellO hx 4).trans rfl
  have HB1 := Lib.hid hb1
  clear hg hx hb1
  go_wp2_with fail
  refine (CL.out _).mono ?_
  rintro e w2 ⟨rfl, hg⟩
  have hb2 : Below w.heap.size w w2 := (HB1.out.alloc (by omega) _).trans (hg.mono (by simp; omega))
  have hs2 := hg.size
  simp at hs2
  have hlt2 : w1.heap.size < w2.heap.size := by omega
  have hy : w2.heap[w1.heap.size]? = some (.cells #[.int .u64 (c : Int), .int .u64 (pn : Int)] 95 (0, 0)) := by
    rw [hg.block w1.heap.size (by simp)]; exact heap_alloc_new w1 _
  have HY := Lib.hid hy
  have HB2 := Lib.hid hb2
  clear hg hy hb2 x0 x1 x2 x3 x4
  go_wp2_with fail
  refine (FR.out w2 HB2.out).mono ?_
  rintro e w3 ⟨rfl, hg⟩
  have hy : w3.heap[w1.heap.size]? = some (.cells #[.int .u64 (c : Int), .int .u64 (pn : Int)] 95 (0, 0)) := by
    rw [hg.block w1.heap.size hlt2]; exact HY.out
  have y0 : w3.cell? ⟨w1.heap.size, 0, none⟩ = some (.int .u64 (c : Int)) := (cellO hy 0).trans rfl
  have y1 : w3.cell? ⟨w1.heap.size, 1, none⟩ = some (.int .u64 (pn : Int)) := (cellO hy 1).trans rfl
  have hs3 := hg.size
  have HB3 := Lib.hid (HB2.out.trans (hg.mono HB2.out.size))
  have hlt3 : w1.heap.size < w3.heap.size := by omega
  clear hg hy
  have q1 : ¬ ((N - free : Nat) : Int) < 2 + (n : Int) := by omega
  have H3 := HH.out.later HB3.out
  obtain ⟨c1, -, hlh, -, -⟩ := H3.freed
  have PT := Lib.hid (put_only B h N free free c pn S M w3 H3 (by have := HB3.out.size; omega) (by omega) hc hpl)
  clear H3
  go_wp2_with fail
  all_goals (try (exfalso; go_light; omega))
  refine PT.out.mono ?_
  rintro e w4 ⟨rfl, hh4, hg4, hst4⟩
  have HT4 := Lib.hid ((Stays.below HB3.out).trans hst4)
  clear hst4
  have HB4 := Lib.hid ((HB3.out.mono hB).trans hg4 : Below B w w4)
  have HH4 := Lib.hid hh4
  clear hh4 hg4 y0 y1 c1
  go_wp2_with fail
  go_loopg [17, 48] n (fun gg s17 j wr => ∃ q : Nat, gg = n - q ∧ q ≤ n ∧ j = .int .i64 q ∧ HeapAt wr B h N free S (fillM (put2 M free c pn) (free + 2) q f) ∧ Below B w wr ∧ Stays h w wr)
  case atStart => exact ⟨0, rfl, by omega, rfl, by rw [fillM_zero]; exact HH4.out, HB4.out, HT4.out⟩
  case round =>
    obtain ⟨q, hgk, hq, rfl, hh, hb, hst⟩ := hrel
    have HT := Lib.hid hst; clear hst
    have HK := Lib.hid hgk; have HB := Lib.hid hb; clear hgk
    by_cases hlt : q < n
    · obtain ⟨g, g0, gB, gl, hl, gc, gf, gset⟩ := hh.store (free + 2 + q) (by omega)
      have HS := Lib.hid (gset f hf)
      rw [fillM_step] at HS
      have HBS := Lib.hid (hb.setCell (p := ⟨g, free + 2 + q, none⟩) gB (.int .u64 (f : Int)))
      have HTS := Lib.hid (HT.out.trans (Stays.setG (i := free + 2 + q) (v := .int .u64 (f : Int)) g0))
      clear hh gset hb
      generalize fillM (put2 M free c pn) (free + 2) q f (free + 2 + q) = old at *
      go_wp2_with fail
      go_roundg (n - (q + 1))
      case measure => rw [HK.out]; omega
      case rel => exact ⟨q + 1, rfl, by omega, by go_num, HS.out, HBS.out, HTS.out⟩
    · obtain rfl : q = n := by omega
      obtain ⟨s, s0, hl, hbits, hnew⟩ := hh.bits
      have hws := hb.size
      have SK := Lib.hid (set_only B s N S (free : Int) true wr hbits (by omega))
      have HNEW := Lib.hid hnew
      have S0 := Lib.hid s0
      clear hh hbits hnew hb
      go_wp2_with fail
      refine SK.out.mono ?_
      rintro e w5 ⟨rfl, hb5, hg5, hk5, ho5⟩
      have HT5 := Lib.hid ((HT.out.trans (Stays.bits S0.out hg5.size hk5 ho5)).trans (Stays.setH (v := .int .i64 ((free + 2 + q : Nat) : Int))))
      clear ho5
      have h5 := HNEW.out w5 _ hb5 hk5
      obtain ⟨c1, f1, hl5, hBh, hset⟩ := h5.freed
      have HS5 := Lib.hid (hset (free + 2 + q) (by omega))
      have HB5 := Lib.hid ((HB.out.trans hg5).setCell (p := ⟨h, 1, none⟩) hBh (.int .i64 ((free + 2 + q : Nat) : Int)))
      have PTR := Lib.hid (fun W => ptr_yes (free : Int) (by omega) (by omega) W)
      clear h5 hset hb5 hg5 hk5
      go_wp2_with fail
      refine (PTR.out _).mono ?_
      rintro e w6 ⟨rfl, hw6⟩
      subst hw6
      go_wp2_with fail
      refine bodyPost_ret (v := .tuple #[.int .u64 (free * 2 : Int), .int .i64 0]) (by simp [results, Tryd.results13, go_sem]) rfl ⟨rfl, ?_, ?_, ?_⟩
      · rw [show ((free : Int) + (2 + (q : Int))) = ((free + 2 + q : Nat) : Int) by omega]; exact HS5.out
      · rw [show ((free : Int) + (2 + (q : Int))) = ((free + 2 + q : Nat) : Int) by omega]; exact HB5.out
      · rw [show ((free : Int) + (2 + (q : Int))) = ((free + 2 + q : Nat) : Int) by omega]; exact HT5.out
theorem alloc_slots (B h N free c n f : Nat) (k : Int) (S : Nat → Bool) (M : Nat → Nat) (w : World) (H : HeapAt w B h N free S M) (hB : B ≤ w.heap.size) (hc : c < 18446744073709551616) (hz : checkZ c k n 0 = 0) (hk : k ≠ 2) (hf : f < 18446744073709551616) (hfit : free + n + 2 ≤ N) (h2 : 2 ≤ free) :
    Calls Tryd.prog 13 #[.pointer (some ⟨h, 0, none⟩), .int .u64 (c : Int), .int .i64 k, .int .i64 (n : Int), .int .u64 (f : Int)] w fun e w' => e = .returned (.tuple #[.int .u64 (free * 2 : Int), .int .i64 0]) ∧ HeapAt w' B h N (free + 2 + n) (setS N S (free : Int) true) (fillM (put2 M free c (packZ k n 0 false).toNat) (free + 2) n f) ∧ Below B w w' :=
  (slots_only B h N free c n f k S M w H hB hc hz hk hf hfit h2).mono fun _ _ h => ⟨h.1, h.2.1, h.2.2.1⟩
end Go.Proofs.YtobajnodckiohaaDoor
