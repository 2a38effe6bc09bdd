/- Memory: an object's head; all bytes of it. -/
import Derived.Test.YtfhkmbeokdfllaaHeapS
namespace Go.Proofs.Ytfhkmbeokdfllaa
open Go.RowKit
set_option linter.unusedVariables false
theorem bytes_of_row {w : World} {g m cap : Nat} {f : Nat → Value} {L : List UInt8} (h : w.rowIs g 5 m f) (hm : L.length ≤ m) (hf : ∀ i (hi : i < L.length), f i = .int .u8 (L[i].toNat : Int)) (hc : L.length ≤ cap) (hcm : cap ≤ maxLen) : BytesAt w (.slice (some ⟨g, 0, none⟩) L.length cap) L := by
  refine ⟨_, cap, rfl, hc, hcm, Or.inr ⟨g, 0, rfl, fun j hj => ?_⟩, fun h => by cases h⟩
  rw [Lib.byteCells_length] at hj
  rw [Nat.zero_add, h.cell (by omega), hf j hj]
  simp [Lib.byteCells, hj]
set_option maxRecDepth 100000 in
theorem hHead_yes (B h N free a : Nat) (S : Nat → Bool) (M : Nat → Nat) (w : World) (H : HeapAt w B h N free S M) (a0 : 1 ≤ a) (ha : a + 2 ≤ N) (hS' : S a = true) (hok : UnOK (M a) (M (a + 1))) :
    Calls Try.prog 30 #[.pointer (some ⟨h, 0, none⟩), .int .u64 (a * 2 : Int)] w fun e w' => e = .returned (.tuple #[.agg #[.int .u64 (M a : Int), .int .i64 (hK (M (a + 1))), .int .i64 (hS (M (a + 1))), .int .u32 (hH (M (a + 1))), .bool (hM (M (a + 1)))], .int .i64 0]) ∧ Below w.heap.size w w' := by
  have hN : N ≤ 16777216 := by obtain ⟨g, s, -, -, h3, -⟩ := H; exact h3
  have A := Lib.hid (fun W (hW : Below w.heap.size w W) => hat_yes B h N free a S M W (H.later hW) a0 (by omega))
  rw [hS'] at A
  have HD := Lib.hid (fun W (hW : Below w.heap.size w W) => hhead_yes B h N free a S M W (H.later hW) ha hok)
  clear H hok
  generalize hK (M (a + 1)) = vk at *
  generalize hS (M (a + 1)) = vs at *
  generalize hH (M (a + 1)) = vh at *
  generalize hM (M (a + 1)) = vm at *
  have hz0 : Below w.heap.size w (w.alloc (.cells #[.int .u64 0, .int .i64 0, .int .i64 0, .int .u32 0, .bool false] 56)) := (Below.refl _ w).alloc (Nat.le_refl _) _
  have HZ0 := Lib.hid hz0; clear hz0
  go_enter Try.func30, Try.ntmps30
  go_wp2_with fail
  refine (A.out _ HZ0.out).mono ?_
  rintro e w1 ⟨rfl, hg1⟩
  have hx1 : w1.heap[w.heap.size]? = some (.cells #[.int .u64 0, .int .i64 0, .int .i64 0, .int .u32 0, .bool false] 56 (0, 0)) := by
    rw [hg1.block w.heap.size (by simp)]; exact heap_alloc_new w _
  have hl1 : w.heap.size < w1.heap.size := (Array.getElem?_eq_some_iff.1 hx1).1
  have HX1 := Lib.hid hx1
  have HG1 := Lib.hid (HZ0.out.trans (hg1.mono (by simp)) : Below w.heap.size w w1)
  clear hg1 hx1
  go_wp2_with fail
  refine (HD.out w1 HG1.out).mono ?_
  rintro e w2 ⟨rfl, hg2⟩
  have hx2 : w2.heap[w.heap.size]? = some (.cells #[.int .u64 0, .int .i64 0, .int .i64 0, .int .u32 0, .bool false] 56 (0, 0)) := by
    rw [hg2.block w.heap.size hl1]; exact HX1.out
  have hlw : w.heap.size < w2.heap.size := (Array.getElem?_eq_some_iff.1 hx2).1
  have z0 : w2.cell? ⟨w.heap.size, 0, none⟩ = _ := cellO hx2 0
  have z1 : w2.cell? ⟨w.heap.size, 1, none⟩ = _ := cellO hx2 1
  have z2 : w2.cell? ⟨w.heap.size, 2, none⟩ = _ := cellO hx2 2
  have z3 : w2.cell? ⟨w.heap.size, 3, none⟩ = _ := cellO hx2 3
  have z4 : w2.cell? ⟨w.heap.size, 4, none⟩ = _ := cellO hx2 4
  have y : ∀ j, w2.frozen? ⟨w.heap.size, j, none⟩ = false := fun j => by unfold World.frozen?; rw [hx2]; cases j <;> rfl
  simp at z0 z1 z2 z3 z4
  have HG2 := Lib.hid (HG1.out.trans (hg2.mono HG1.out.size) : Below w.heap.size w w2)
  clear hg2 hx2
  go_wp2_with fail
  refine bodyPost_ret (v := .tuple #[.agg #[.int .u64 (M a : Int), .int .i64 vk, .int .i64 vs, .int .u32 vh, .bool vm], .int .i64 0]) (by simp [results, Try.results30, go_sem, z0, z1, z2, z3, z4]) rfl ⟨rfl, ?_⟩
  have hb := HG2.out
  repeat (first | with_reducible exact Below.refl _ _ | ((with_reducible refine Below.setCell ?_ ?_ _); rotate_left; focus (first | (simp; done) | (simp; omega) | omega)) | ((with_reducible refine Below.alloc ?_ ?_ _); rotate_left; focus (first | (simp; done) | (simp; omega) | omega)) | (with_reducible refine Below.drew ?_) | ((with_reducible refine Below.trans ?_ (Below.mono hb ?_)); rotate_left; focus (first | (simp; done) | (simp; omega) | omega)))
/-- what an object's bytes are -/
def rawL (M : Nat → Nat) (a n : Nat) : List UInt8 := (List.range n).map fun i => UInt8.ofNat (byteIn (M (a + 2 + i / 8)) (i % 8))
theorem rawL_len (M : Nat → Nat) (a n : Nat) : (rawL M a n).length = n := by simp [rawL]
set_option maxRecDepth 100000 in
theorem bytes_any (B h N free a n : Nat) (S : Nat → Bool) (M : Nat → Nat) (w : World) (H : HeapAt w B h N free S M) (R : IsRaw S M N a n) (hn : n ≤ 1000000) :
    Calls Try.prog 14 #[.pointer (some ⟨h, 0, none⟩), .int .u64 (a * 2 : Int)] w fun e w' => ∃ v, e = .returned (.tuple #[v, .int .i64 0]) ∧ BytesAt w' v (rawL M a n) ∧ Below w.heap.size w w' := by
  have RR := Lib.hid R
  obtain ⟨r1, r2, r3, r4, r5, r6⟩ := R
  have HD := Lib.hid (hHead_yes B h N free a S M w H r1 (by omega) r3 r4)
  rw [r5, r6] at HD
  have BY := Lib.hid (fun W i (hW : Below w.heap.size w W) (hi : i < n) => byte_any B h N free a n i S M W (H.later hW) RR.out hi)
  clear H r3 r4 r5 r6
  generalize hH (M (a + 1)) = vh at *
  generalize hM (M (a + 1)) = vm at *
  have hmk : ∀ W, (Instr.makeSlice 35 (.int .i64 (n : Int)) (.int .i64 (n : Int))).run Try.prog W = .ok (.slice (some ⟨W.heap.size, 0, none⟩) n n) (W.alloc (.cells (madeCells #[.int .u8 0] n) 5)) :=
    fun W => run_make_row' (P := Try.prog) 35 5 (.int .u8 0) 1 Try.underlying35 byteInfo rfl .i64 .i64 n (by omega) (by omega) W
  go_enter Try.func14, Try.ntmps14
  go_wp2_with fail
  refine HD.out.mono ?_
  rintro e w1 ⟨rfl, hg⟩
  have HG1 := Lib.hid hg; clear hg
  have hs1 := HG1.out.size
  have HR0 := Lib.hid (show ((w1.alloc (.cells #[.int .u64 (M a : Int), .int .i64 2, .int .i64 (n : Int), .int .u32 vh, .bool vm] 56)).alloc (.cells (madeCells #[.int .u8 0] n) 5)).rowIs (w1.heap.size + 1) 5 n (fun _ => .int .u8 0) from by
    have := World.rowIs_made (w1.alloc (.cells #[.int .u64 (M a : Int), .int .i64 2, .int .i64 (n : Int), .int .u32 vh, .bool vm] 56)) (.int .u8 0) n 5
    rw [show (w1.alloc (.cells #[.int .u64 (M a : Int), .int .i64 2, .int .i64 (n : Int), .int .u32 vh, .bool vm] 56)).heap.size = w1.heap.size + 1 by simp] at this
    exact this)
  have HB0 := Lib.hid (show Below w.heap.size w ((w1.alloc (.cells #[.int .u64 (M a : Int), .int .i64 2, .int .i64 (n : Int), .int .u32 vh, .bool vm] 56)).alloc (.cells (madeCells #[.int .u8 0] n) 5)) from (HG1.out.alloc hs1 _).alloc (by simp; omega) _)
  have hgw : w.heap.size ≤ w1.heap.size + 1 := by omega
  go_wp2_with fail
  generalize w1.heap.size + 1 = g0 at *
  go_loopg [27] n (fun gg j wr => ∃ k : Nat, gg = n - k ∧ k ≤ n ∧ j = .int .i64 k ∧ wr.rowIs g0 5 n (fun i => if i < k then .int .u8 (byteIn (M (a + 2 + i / 8)) (i % 8) : Int) else .int .u8 0) ∧ Below w.heap.size w wr)
  case atStart => exact ⟨0, rfl, by omega, rfl, HR0.out.congr fun i hi => by rw [if_neg (by omega)], HB0.out⟩
  case round =>
    obtain ⟨k, hgk, hk, rfl, hr, hb⟩ := hrel
    have HK := Lib.hid hgk; have HB := Lib.hid hb; have HR := Lib.hid hr; clear hgk
    by_cases hlt : k < n
    · have hlg := hr.lt
      have B1 := Lib.hid (BY.out wr k hb hlt)
      clear hr hb
      go_wp2_with fail
      refine B1.out.mono ?_
      rintro e w3 ⟨rfl, hg3⟩
      have hr3 := HR.out.of_block (hg3.block g0 hlg)
      have hc3 := hr3.cell hlt
      rw [if_neg (by omega)] at hc3
      have hf3 := hr3.frozen k
      have hl3 := hr3.lt
      have HR3 := Lib.hid ((hr3.set k (.int .u8 (byteIn (M (a + 2 + k / 8)) (k % 8) : Int))).congr (g := fun i => if i < k + 1 then .int .u8 (byteIn (M (a + 2 + i / 8)) (i % 8) : Int) else .int .u8 0) fun i hi => by
        by_cases e : i = k
        · subst e; rw [if_pos rfl, if_pos (by omega)]
        · rw [if_neg e]
          by_cases e2 : i < k
          · rw [if_pos e2, if_pos (by omega)]
          · rw [if_neg e2, if_neg (by omega)])
      have HB3 := Lib.hid ((HB.out.trans (hg3.mono HB.out.size)).setCell (p := ⟨g0, k, none⟩) hgw (.int .u8 (byteIn (M (a + 2 + k / 8)) (k % 8) : Int)))
      clear hr3 hg3
      generalize byteIn (M (a + 2 + k / 8)) (k % 8) = bv at *
      go_wp2_with fail
      go_roundg (n - (k + 1))
      case measure => rw [HK.out]; omega
      case rel => exact ⟨k + 1, rfl, by omega, by go_num, HR3.out, HB3.out⟩
    · obtain rfl : k = n := by omega
      have HBY := Lib.hid (bytes_of_row (cap := k) (L := rawL M a k) hr (by rw [rawL_len]; exact Nat.le_refl _) (fun i hi => by
        rw [rawL_len] at hi
        rw [if_pos hi]
        have hb := byteIn_lt (M (a + 2 + i / 8)) (i % 8)
        simp only [rawL, List.getElem_map, List.getElem_range]
        congr 1
        have : (UInt8.ofNat (byteIn (M (a + 2 + i / 8)) (i % 8))).toNat = byteIn (M (a + 2 + i / 8)) (i % 8) % 256 := by simp
        rw [this, Nat.mod_eq_of_lt hb]) (by rw [rawL_len]; exact Nat.le_refl _) (by unfold maxLen; omega))
      have hlen := rawL_len M a k
      clear hr hb
      go_wp2_with fail
      refine bodyPost_ret (v := .tuple #[.slice (some ⟨g0, 0, none⟩) k k, .int .i64 0]) (by simp [results, Try.results14, go_sem]) rfl ⟨_, rfl, ?_, HB.out⟩
      have := HBY.out
      rwa [hlen] at this
end Go.Proofs.Ytfhkmbeokdfllaa
