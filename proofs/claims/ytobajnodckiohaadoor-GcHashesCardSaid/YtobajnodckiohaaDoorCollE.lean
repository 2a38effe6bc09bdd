/- An object's words, turned. -/
import Derived.Test.YtobajnodckiohaaDoorCollD
import Derived.Test.YtobajnodckiohaaDoorPackUnw
import Derived.Lib.AppendZerosOnto
import Derived.ArgAppend
namespace Go.Proofs.YtobajnodckiohaaDoor
open Go.RowKit
set_option linter.unusedVariables false
set_option maxRecDepth 100000 in
theorem bytes_own (B h N free a n : Nat) (S : Nat → Bool) (M : Nat → Nat) (w : World) (H : HeapAt w B h N free S M) (R : IsRaw S M N a n) (hn : n ≤ 1000000) :
    Calls Tryd.prog 54 #[.pointer (some ⟨h, 0, none⟩), .int .u64 (a * 2 : Int)] w fun e w' => ∃ g, e = .returned (.tuple #[.slice (some ⟨g, 0, none⟩) n n, .int .i64 0]) ∧ BytesAt w' (.slice (some ⟨g, 0, none⟩) n n) (rawL M a n) ∧ Below w.heap.size w w' := by
  have RR := Lib.hid R
  obtain ⟨r1, r2, r3, r4, r5, r6⟩ := R
  have HD := Lib.hid (hHead_yes B h N free a S M w H r1 (by omega) r3 r4)
  rw [r5, r6] at HD
  have BY := Lib.hid (fun W i (hW : Below w.heap.size w W) (hi : i < n) => byte_any B h N free a n i S M W (H.later hW) RR.out hi)
  clear H r3 r4 r5 r6
  generalize hH (M (a + 1)) = vh at *
  generalize hM (M (a + 1)) = vm at *
  have hmk : ∀ W, (Instr.makeSlice 41 (.int .i64 (n : Int)) (.int .i64 (n : Int))).run Tryd.prog W = .ok (.slice (some ⟨W.heap.size, 0, none⟩) n n) (W.alloc (.cells (madeCells #[.int .u8 0] n) 5)) :=
    fun W => run_make_row' (P := Tryd.prog) 41 5 (.int .u8 0) 1 Tryd.underlying41 byteInfo rfl .i64 .i64 n (by omega) (by omega) W
  go_enter Tryd.func54, Tryd.ntmps54
  go_wp2_with fail
  refine HD.out.mono ?_
  rintro e w1 ⟨rfl, hg⟩
  have HG1 := Lib.hid hg; clear hg
  have hs1 := HG1.out.size
  have HR0 := Lib.hid (show ((w1.alloc (.cells #[.int .u64 (M a : Int), .int .i64 2, .int .i64 (n : Int), .int .u32 vh, .bool vm] 52)).alloc (.cells (madeCells #[.int .u8 0] n) 5)).rowIs (w1.heap.size + 1) 5 n (fun _ => .int .u8 0) from by
    have := World.rowIs_made (w1.alloc (.cells #[.int .u64 (M a : Int), .int .i64 2, .int .i64 (n : Int), .int .u32 vh, .bool vm] 52)) (.int .u8 0) n 5
    rw [show (w1.alloc (.cells #[.int .u64 (M a : Int), .int .i64 2, .int .i64 (n : Int), .int .u32 vh, .bool vm] 52)).heap.size = w1.heap.size + 1 by simp] at this
    exact this)
  have HB0 := Lib.hid (show Below w.heap.size w ((w1.alloc (.cells #[.int .u64 (M a : Int), .int .i64 2, .int .i64 (n : Int), .int .u32 vh, .bool vm] 52)).alloc (.cells (madeCells #[.int .u8 0] n) 5)) from (HG1.out.alloc hs1 _).alloc (by simp; omega) _)
  have hgw : w.heap.size ≤ w1.heap.size + 1 := by omega
  go_wp2_with fail
  generalize w1.heap.size + 1 = g0 at *
  go_loopg [27] n (fun gg j wr => ∃ k : Nat, gg = n - k ∧ k ≤ n ∧ j = .int .i64 k ∧ wr.rowIs g0 5 n (fun i => if i < k then .int .u8 (byteIn (M (a + 2 + i / 8)) (i % 8) : Int) else .int .u8 0) ∧ Below w.heap.size w wr)
  case atStart => exact ⟨0, rfl, by omega, rfl, HR0.out.congr fun i hi => by rw [if_neg (by omega)], HB0.out⟩
  case round =>
    obtain ⟨k, hgk, hk, rfl, hr, hb⟩ := hrel
    have HK := Lib.hid hgk; have HB := Lib.hid hb; have HR := Lib.hid hr; clear hgk
    by_cases hlt : k < n
    · have hlg := hr.lt
      have B1 := Lib.hid (BY.out wr k hb hlt)
      clear hr hb
      go_wp2_with fail
      refine B1.out.mono ?_
      rintro e w3 ⟨rfl, hg3⟩
      have hr3 := HR.out.of_block (hg3.block g0 hlg)
      have hc3 := hr3.cell hlt
      rw [if_neg (by omega)] at hc3
      have hf3 := hr3.frozen k
      have hl3 := hr3.lt
      have HR3 := Lib.hid ((hr3.set k (.int .u8 (byteIn (M (a + 2 + k / 8)) (k % 8) : Int))).congr (g := fun i => if i < k + 1 then .int .u8 (byteIn (M (a + 2 + i / 8)) (i % 8) : Int) else .int .u8 0) fun i hi => by
        by_cases e : i = k
        · subst e; rw [if_pos rfl, if_pos (by omega)]
        · rw [if_neg e]
          by_cases e2 : i < k
          · rw [if_pos e2, if_pos (by omega)]
          · rw [if_neg e2, if_neg (by omega)])
      have HB3 := Lib.hid ((HB.out.trans (hg3.mono HB.out.size)).setCell (p := ⟨g0, k, none⟩) hgw (.int .u8 (byteIn (M (a + 2 + k / 8)) (k % 8) : Int)))
      clear hr3 hg3
      generalize byteIn (M (a + 2 + k / 8)) (k % 8) = bv at *
      go_wp2_with fail
      go_roundg (n - (k + 1))
      case measure => rw [HK.out]; omega
      case rel => exact ⟨k + 1, rfl, by omega, by go_num, HR3.out, HB3.out⟩
    · obtain rfl : k = n := by omega
      have HBY := Lib.hid (bytes_of_row (cap := k) (L := rawL M a k) hr (by rw [rawL_len]; exact Nat.le_refl _) (fun i hi => by
        rw [rawL_len] at hi
        rw [if_pos hi]
        have hb := byteIn_lt (M (a + 2 + i / 8)) (i % 8)
        simp only [rawL, List.getElem_map, List.getElem_range]
        congr 1
        have : (UInt8.ofNat (byteIn (M (a + 2 + i / 8)) (i % 8))).toNat = byteIn (M (a + 2 + i / 8)) (i % 8) % 256 := by simp
        rw [this, Nat.mod_eq_of_lt hb]) (by rw [rawL_len]; exact Nat.le_refl _) (by unfold maxLen; omega))
      have hlen := rawL_len M a k
      clear hr hb
      go_wp2_with fail
      refine bodyPost_ret (v := .tuple #[.slice (some ⟨g0, 0, none⟩) k k, .int .i64 0]) (by simp [results, Tryd.results54, go_sem]) rfl ⟨_, rfl, ?_, HB.out⟩
      have := HBY.out
      rwa [hlen] at this
theorem zeros8 (k : Nat) (hk : k < 8) : (#[Value.int .u8 0, Value.int .u8 0, Value.int .u8 0] ++ Builtin.zeroCells #[Value.int .u8 0] 5)[0 + k]? = (Lib.byteCells [0, 0, 0, 0, 0, 0, 0, 0])[k]? := by
  rw [Nat.zero_add, Array.getElem?_append]
  match k, hk with
  | 0, _ => simp [Lib.byteCells]
  | 1, _ => simp [Lib.byteCells]
  | 2, _ => simp [Lib.byteCells]
  | 3, _ => simp [Builtin.zeroCells, Lib.byteCells]
  | 4, _ => simp [Builtin.zeroCells, Lib.byteCells]
  | 5, _ => simp [Builtin.zeroCells, Lib.byteCells]
  | 6, _ => simp [Builtin.zeroCells, Lib.byteCells]
  | 7, _ => simp [Builtin.zeroCells, Lib.byteCells]
theorem objW_two (M : Nat → Nat) (T : Nat → Bool) (a : Nat) : (objW M T a).take 2 = [turnM M T (M a), M (a + 1)] := rfl
theorem objW_next {M : Nat → Nat} {T : Nat → Bool} {a j : Nat} (hk : hK (M (a + 1)) ≠ 2) (hj : j < cz M a) : (objW M T a).take (2 + j + 1) = (objW M T a).take (2 + j) ++ [turnM M T (M (a + 2 + j))] := by
  have hl : 2 + j < (objW M T a).length := by rw [objW_len]; omega
  rw [List.take_succ_eq_append_getElem hl]
  have h := List.getElem?_eq_getElem hl
  obtain ⟨y, hy⟩ : ∃ y, (objW M T a)[2 + j]'hl = y := ⟨_, rfl⟩
  rw [hy] at h ⊢
  rw [objW, show 2 + j = j + 1 + 1 by omega, List.getElem?_cons_succ, List.getElem?_cons_succ, List.getElem?_map, List.getElem?_range hj] at h
  simp only [Option.map_some, if_neg hk] at h
  rw [Option.some.inj h]
theorem objW_raw {M : Nat → Nat} {T : Nat → Bool} {a : Nat} (hk : hK (M (a + 1)) = 2) (h1 : cz M a = 1) (hz : M (a + 2) = 0) : objW M T a = [turnM M T (M a), M (a + 1), 0] := by
  unfold objW
  rw [h1]
  show [_, _, if hK (M (a + 1)) = 2 then M (a + 2 + 0) else _] = _
  rw [if_pos hk, Nat.add_zero, hz]
theorem rawL_zero {M : Nat → Nat} {a : Nat} (hz : M (a + 2) = 0) : rawL M a 3 = [0, 0, 0] := by
  have h : ∀ i, i < 3 → UInt8.ofNat (byteIn (M (a + 2 + i / 8)) (i % 8)) = 0 := fun i hi => by
    rw [show a + 2 + i / 8 = a + 2 by omega, hz]
    unfold byteIn
    rw [Nat.zero_div]; rfl
  show [UInt8.ofNat (byteIn (M (a + 2 + 0 / 8)) (0 % 8)), UInt8.ofNat (byteIn (M (a + 2 + 1 / 8)) (1 % 8)), UInt8.ofNat (byteIn (M (a + 2 + 2 / 8)) (2 % 8))] = _
  rw [h 0 (by omega), h 1 (by omega), h 2 (by omega)]
set_option maxRecDepth 100000 in
set_option maxHeartbeats 3200000 in
theorem words_turned (B h N free bS a : Nat) (S T : Nat → Bool) (M : Nat → Nat) (R : List Nat) (v : Value) (w : World) (H : HeapAt w B h N free S M) (c : CollOK N S M) (hs : Stay S M R T) (hP : PlanAt w N bS T M v) (ha : T a = true) :
    Calls Tryd.prog 32 #[.agg #[.pointer (some ⟨bS, 0, none⟩), v], .pointer (some ⟨h, 0, none⟩), .int .u64 (a * 2 : Int)] w fun e w' => ∃ v', e = .returned v' ∧ w'.ownsRow w.heap.size 38 1 v' (2 + cz M a) (wordVals (objW M T a)) ∧ Below w.heap.size w w' := by
  obtain ⟨va, vn, vc, rfl⟩ : ∃ va vn vc, v = .slice va vn vc := by obtain ⟨-, B3, h2⟩ := hP; exact owns_slice h2
  have hN := c.most
  have hSa := hs.sub ha
  obtain ⟨o1, o2, oU, oH, o3, oz⟩ := c.obj a hSa
  have hla := (c.lt hSa).2.1
  obtain ⟨i2, hi2, hc0, hc1, hc2⟩ := info_parts cellInfo
  have czv := cz3 oU (c.small _) oz
  have TU := Lib.hid (fun W (x : Nat) (hx : x < 18446744073709551616) (hW : Below w.heap.size w W) => turn_any N bS x S T M R _ W c hs (hP.later hW) hx)
  have HDD := Lib.hid (fun W (hW : Below w.heap.size w W) => hHead_yes B h N free a S M W (H.later hW) (by omega) (by omega) hSa oU)
  have GET := Lib.hid (fun W (j : Nat) (hj : (j : Int) < hS (M (a + 1))) (hk : hK (M (a + 1)) ≠ 2) (hW : Below w.heap.size w W) => hget_yes B h N free a j S M W (H.later hW) (by omega) (by rw [if_neg hk] at czv; omega) hSa oU hk hj)
  have BYT := Lib.hid (fun W (hk : hK (M (a + 1)) = 2) (hW : Below w.heap.size w W) => bytes_own B h N free a 3 S M W (H.later hW) ⟨by omega, by rw [if_pos hk] at czv; omega, hSa, oU, hk, (oz hk).1⟩ (by omega))
  have hsm := c.small a
  obtain ⟨tc0, tc1⟩ := turn_cls c hs hSa
  have tcs := turn_small c hs hsm
  have hck : checkZ (turnM M T (M a) : Int) (hK (M (a + 1))) (hS (M (a + 1))) (hH (M (a + 1))) = 0 := by
    have h1 := unOK_check oU (by omega) (by have := c.small (a + 1); omega)
    rw [checkZ_ok] at h1 ⊢
    omega
  have PY := pack_yes (turnM M T (M a) : Int) (hK (M (a + 1))) (hS (M (a + 1))) (hH (M (a + 1))) (hM (M (a + 1))) (by omega) (by omega) (by unfold hH; omega) hck
  rw [packZ_back.2 oU.2.2.2.2] at PY
  have PYH := Lib.hid PY
  have hcz : cellsZ (turnM M T (M a) : Int) (hK (M (a + 1))) (hS (M (a + 1))) (hH (M (a + 1))) = (cz M a : Int) := by
    rw [czv]; unfold cellsZ
    rw [if_pos hck]
    by_cases hk : hK (M (a + 1)) = 2
    · rw [if_pos hk, if_pos hk, (oz hk).1]; rfl
    · rw [if_neg hk, if_neg hk, Int.toNat_of_nonneg (by omega)]
  have CZ := cells_any (turnM M T (M a) : Int) (hK (M (a + 1))) (hS (M (a + 1))) (hH (M (a + 1))) (hM (M (a + 1))) (by omega) (by omega)
  rw [hcz] at CZ
  have CZH := Lib.hid CZ
  have O2 := Lib.hid (objW_two M T a)
  have ON := Lib.hid (fun j hk hj => objW_next (M := M) (T := T) (a := a) (j := j) hk hj)
  have OR := Lib.hid (fun hk h1 => objW_raw (M := M) (T := T) (a := a) hk h1 (oz hk).2)
  have RZ := Lib.hid (fun hk => rawL_zero (M := M) (a := a) (oz hk).2)
  have OL := Lib.hid (objW_len M T a)
  have MS := Lib.hid c.small
  have OZ := Lib.hid (fun hk => (oz hk).1)
  obtain ⟨L, hL⟩ : ∃ L, objW M T a = L := ⟨_, rfl⟩
  rw [hL] at O2 ON OR OL ⊢
  obtain ⟨tc, htc⟩ : ∃ tc, turnM M T (M a) = tc := ⟨_, rfl⟩
  rw [htc] at PYH CZH O2 tcs OR
  have TC := Lib.hid (fun W (hW : Below w.heap.size w W) => TU.out W (M a) hsm hW)
  rw [htc] at TC
  obtain ⟨m0, hm0⟩ : ∃ m0, M a = m0 := ⟨_, rfl⟩
  rw [hm0] at HDD TC
  obtain ⟨m1, hm1⟩ : ∃ m1, M (a + 1) = m1 := ⟨_, rfl⟩
  rw [hm1] at HDD PYH CZH O2 GET BYT ON OR RZ OZ czv o3
  generalize hK (m1 : Int) = vk at *
  generalize hM (m1 : Int) = vm at *
  generalize hH (m1 : Int) = vh at *
  generalize hS (m1 : Int) = s at *
  obtain ⟨s1, s7⟩ := o3
  clear H c hs hP ha hSa oU oH oz hsm hck PY hcz CZ tc0 tc1 hL htc hm0 hm1 o2
  go_enter Tryd.func32, Tryd.ntmps32
  go_upto_region 1 with fail
  obtain ⟨w1, hw1⟩ : ∃ w1, w1 = w.alloc (.cells #[.pointer (some ⟨bS, 0, none⟩), .slice va vn vc] 87) := ⟨_, rfl⟩
  rw [← hw1]
  have hx1 : w1.heap[w.heap.size]? = some (.cells #[.pointer (some ⟨bS, 0, none⟩), .slice va vn vc] 87 (0, 0)) := by rw [hw1]; exact heap_alloc_new w _
  have hb1 : Below w.heap.size w w1 := by rw [hw1]; exact (Below.refl _ w).alloc (Nat.le_refl _) _
  have HD1 := Lib.hid (HDD.out w1 hb1)
  have HX1 := Lib.hid hx1; have HB1 := Lib.hid hb1
  clear hw1 hx1 hb1 HDD
  go_wp2_with fail
  refine HD1.out.mono ?_
  rintro e w2 ⟨rfl, hg2⟩
  have HB2 := Lib.hid (HB1.out.trans (hg2.mono HB1.out.size))
  have HX2 := Lib.hid ((hg2.block _ (Array.getElem?_eq_some_iff.1 HX1.out).1).trans HX1.out)
  clear hg2 HD1 HX1
  go_upto_region 2 with fail
  obtain ⟨w3, hw3⟩ : ∃ w3, w3 = w2.alloc (.cells #[.int .u64 (m0 : Int), .int .i64 vk, .int .i64 s, .int .u32 vh, .bool vm] 52) := ⟨_, rfl⟩
  rw [← hw3]
  have hx7 : w3.heap[w2.heap.size]? = some (.cells #[.int .u64 (m0 : Int), .int .i64 vk, .int .i64 s, .int .u32 vh, .bool vm] 52 (0, 0)) := by rw [hw3]; exact heap_alloc_new w2 _
  have hg3 : Below w2.heap.size w2 w3 := by rw [hw3]; exact (Below.refl _ w2).alloc (Nat.le_refl _) _
  have HB3 := Lib.hid (HB2.out.trans (hg3.mono HB2.out.size))
  have hx3 := (hg3.block _ (Array.getElem?_eq_some_iff.1 HX2.out).1).trans HX2.out
  have hm3 := (Array.getElem?_eq_some_iff.1 hx3).1
  have hm37 := (Array.getElem?_eq_some_iff.1 hx7).1
  have hm2 : w.heap.size < w2.heap.size := (Array.getElem?_eq_some_iff.1 HX2.out).1
  have u0 := cellO hx3 0
  have u1 := cellO hx3 1
  have v0 := cellO hx7 0
  simp at u0 u1 v0
  have HX3 := Lib.hid hx3; have HX7 := Lib.hid hx7
  clear hw3 hg3 hx3 hx7 HX2
  go_wp2_with fail
  refine (TC.out w3 HB3.out).mono ?_
  rintro e w4 ⟨rfl, hg4⟩
  have HB4 := Lib.hid (HB3.out.trans (hg4.mono HB3.out.size))
  have HX4 := Lib.hid ((hg4.block _ hm3).trans HX3.out)
  have hx47 := (hg4.block _ hm37).trans HX7.out
  have hm47 := (Array.getElem?_eq_some_iff.1 hx47).1
  have v0 := cellO hx47 0
  have f0 : w4.frozen? ⟨w2.heap.size, 0, none⟩ = false := by unfold World.frozen?; rw [hx47]; rfl
  simp at v0
  have HX47 := Lib.hid hx47
  clear hg4 u0 u1 hx47 HX3 HX7
  go_upto_region 3 with fail
  obtain ⟨w5, hw5⟩ : ∃ w5, w5 = w4.setCell ⟨w2.heap.size, 0, none⟩ (.int .u64 (tc : Int)) := ⟨_, rfl⟩
  rw [← hw5]
  have hx57 : w5.heap[w2.heap.size]? = some (.cells #[.int .u64 (tc : Int), .int .i64 vk, .int .i64 s, .int .u32 vh, .bool vm] 52 (0, 0)) := by rw [hw5]; exact heap_setCell_same _ _ _ _ _ _ HX47.out
  have hx5 : w5.heap[w.heap.size]? = some (.cells #[.pointer (some ⟨bS, 0, none⟩), .slice va vn vc] 87 (0, 0)) := by rw [hw5, Below.heap_setCell _ _ _ _ (by simp; omega)]; exact HX4.out
  have hb5 : Below w.heap.size w w5 := by rw [hw5]; exact HB4.out.setCell (p := ⟨w2.heap.size, 0, none⟩) (by simp; omega) _
  have v0 := cellO hx57 0
  have v1 := cellO hx57 1
  have v2 := cellO hx57 2
  have v3 := cellO hx57 3
  have v4 := cellO hx57 4
  have hm57 := (Array.getElem?_eq_some_iff.1 hx57).1
  have hm5 := (Array.getElem?_eq_some_iff.1 hx5).1
  simp at v0 v1 v2 v3 v4
  have HX57 := Lib.hid hx57; have HX5 := Lib.hid hx5; have HB5 := Lib.hid hb5
  clear hw5 hx57 hx5 hb5 HX47 HX4
  go_wp2_with fail
  refine (PYH.out w5).mono ?_
  rintro e w6 ⟨rfl, hg6⟩
  have HB6 := Lib.hid (HB5.out.trans (hg6.mono HB5.out.size))
  have HX6 := Lib.hid ((hg6.block _ hm5).trans HX5.out)
  have HX67 := Lib.hid ((hg6.block _ hm57).trans HX57.out)
  clear hg6 v0 v1 v2 v3 v4 HX5 HX57
  go_upto_region 4 with fail
  obtain ⟨w7, hw7⟩ : ∃ w7, w7 = w6.alloc (.cells #[.int .u64 (tc : Int), .int .u64 (m1 : Int)] 95) := ⟨_, rfl⟩
  rw [← hw7]
  have hx79 : w7.heap[w6.heap.size]? = some (.cells #[.int .u64 (tc : Int), .int .u64 (m1 : Int)] 95 (0, 0)) := by rw [hw7]; exact heap_alloc_new w6 _
  have hg7 : Below w6.heap.size w6 w7 := by rw [hw7]; exact (Below.refl _ w6).alloc (Nat.le_refl _) _
  have HB7 := Lib.hid (HB6.out.trans (hg7.mono HB6.out.size))
  have hx7 := (hg7.block _ (Array.getElem?_eq_some_iff.1 HX6.out).1).trans HX6.out
  have hx77 := (hg7.block _ (Array.getElem?_eq_some_iff.1 HX67.out).1).trans HX67.out
  have v1 := cellO hx77 1
  have v2 := cellO hx77 2
  have hm7 := (Array.getElem?_eq_some_iff.1 hx7).1
  have hm77 := (Array.getElem?_eq_some_iff.1 hx77).1
  have hm79 := (Array.getElem?_eq_some_iff.1 hx79).1
  simp at v1 v2
  have HX7 := Lib.hid hx7; have HX77 := Lib.hid hx77; have HX79 := Lib.hid hx79
  clear hw7 hg7 hx7 hx77 hx79 HX6 HX67
  by_cases hk2 : vk = 2
  · subst hk2
    obtain rfl : s = 3 := OZ.out rfl
    have h1 : cz M a = 1 := by rw [czv]; exact if_pos rfl
    have HL := Lib.hid (OR.out rfl h1)
    have BY7 := BYT.out w7 rfl HB7.out
    rw [RZ.out rfl] at BY7
    have BYH := Lib.hid BY7
    rw [h1] at CZH OL
    have H1 := Lib.hid h1
    obtain ⟨i0, hi0, hz0, hs0, hb0⟩ := info_parts byteInfo
    have hT9 : w.heap.size ≤ w7.heap.size := HB7.out.size
    clear BY7 czv h1 GET BYT
    go_wp2_with fail
    refine BYH.out.mono ?_
    rintro e w8 ⟨g8, rfl, hby, hg8⟩
    have HB8 := Lib.hid (HB7.out.trans (hg8.mono HB7.out.size))
    have hx87 := (hg8.block _ hm77).trans HX77.out
    have HX89 := Lib.hid ((hg8.block _ hm79).trans HX79.out)
    have v0 := cellO hx87 0
    have v1 := cellO hx87 1
    have v2 := cellO hx87 2
    have v3 := cellO hx87 3
    have v4 := cellO hx87 4
    simp at v0 v1 v2 v3 v4
    have HBY := Lib.hid hby
    have G8 := Lib.hid hg8
    clear hby hg8 hx87 BYH
    go_wp2_with fail
    refine (CZH.out w8).mono ?_
    rintro e w9 ⟨rfl, hg9⟩
    have HB9 := Lib.hid (HB8.out.trans (hg9.mono HB8.out.size))
    have HX99 := Lib.hid ((hg9.block _ (Array.getElem?_eq_some_iff.1 HX89.out).1).trans HX89.out)
    have G9 := Lib.hid (G8.out.trans (hg9.mono G8.out.size))
    have hby9 := HBY.out.later hg9
    have hcell9 : ∀ j u, ([.int .u8 0, .int .u8 0, .int .u8 0] : List Value)[j]? = some u → w9.cell? ((⟨g8, 0, none⟩ : Addr).add j) = some u := by
      obtain ⟨aa, cc, he, -, -, hr, -⟩ := hby9
      simp only [Value.slice.injEq] at he
      obtain ⟨rfl, -, -⟩ := he
      exact RowAt.add hr
    have hold : (Builtin.firstCells i0.size 3 (.slice (some ⟨g8, 0, none⟩) 3 3)).run Tryd.prog w9.drew = .ok ([.int .u8 0, .int .u8 0, .int .u8 0] : List Value).toArray w9.drew :=
      run_firstCells_some w9.drew i0.size 3 ⟨g8, 0, none⟩ 3 3 _ (by rw [hs0]; rfl) hcell9
    have hap := fun ty => Lib.run_append_grow_zeros (P := Tryd.prog) w9 41 3 ty 5 i0 (.int .u8 0) .i64 .i64 Tryd.underlying41 Tryd.underlying3 hi0 hz0 (some ⟨g8, 0, none⟩) 3 3 _ hold 5 (by omega) (by rw [hs0]; omega) (by omega) (by omega) (by rw [hb0]; omega) (by rw [hb0]; decide)
    have hge := grownCap_ge w9 8 3 5
    have hle := grownCap_le_maxLen w9 8 3 5 (by unfold maxLen; omega)
    rw [show (3 + 5 : Nat) = 8 by rfl] at hap
    generalize grownCap w9 8 3 5 = gcp at *
    have HAP := Lib.hid hap
    have HGE := Lib.hid hge; have HLE := Lib.hid hle
    clear hap hold hcell9 hby9 hg9 v0 v1 v2 v3 v4 hge hle
    go_wp2_with (at_builtin; refine Lib.wpList_append_run _ rfl _ _ _ _ rfl _ _ rfl rfl _ _ (HAP.out _) ?_)
    generalize hw10 : (w9.alloc _).drew = w10
    have hby10 : BytesAt w10 (.slice (some ⟨w9.heap.size, 0, none⟩) 8 gcp) [0, 0, 0, 0, 0, 0, 0, 0] := by
      refine ⟨_, gcp, rfl, HGE.out, HLE.out, Or.inr ⟨w9.heap.size, 0, rfl, fun k hk => ?_⟩, fun h => by cases h⟩
      have hblk := heap_alloc_new w9 (.cells (#[Value.int .u8 0, Value.int .u8 0, Value.int .u8 0] ++ (Builtin.zeroCells #[Value.int .u8 0] 5 ++ Builtin.zeroCells #[Value.int .u8 0] (gcp - 8))) 5)
      have hc : w10.cell? ⟨w9.heap.size, 0 + k, none⟩ = (#[Value.int .u8 0, Value.int .u8 0, Value.int .u8 0] ++ (Builtin.zeroCells #[Value.int .u8 0] 5 ++ Builtin.zeroCells #[Value.int .u8 0] (gcp - 8)))[0 + k]? := by
        rw [← hw10]; exact cellO hblk _
      have hk8 : k < 8 := hk
      rw [hc, ← Array.append_assoc, Array.getElem?_append_left (by rw [show (#[Value.int .u8 0, Value.int .u8 0, Value.int .u8 0] ++ Builtin.zeroCells #[Value.int .u8 0] 5).size = 8 by simp [Builtin.zeroCells]]; omega)]
      exact zeros8 k hk8
    have hb10 : Below w9.heap.size w9 w10 := by rw [← hw10]; exact ((Below.refl _ w9).alloc (Nat.le_refl _) _).drew
    have UW := unwords_yes _ _ 1 w10 hby10 rfl (by omega)
    rw [show wordsOf [0, 0, 0, 0, 0, 0, 0, 0] 1 = [0] by decide] at UW
    have UWH := Lib.hid UW
    have G10 := Lib.hid (G9.out.trans (hb10.mono G9.out.size))
    clear hw10 hby10 UW hb10 HAP HBY
    refine UWH.out.mono ?_
    rintro e w11 ⟨u, rfl, how, hg11⟩
    obtain ⟨ug, uc, rfl, hu1, hu2⟩ := World.ownsRow.form how (by omega)
    have uz := how.cellAt 0 (by omega)
    rw [show (wordVals [0])[0]? = some (.int .u64 0) by rfl] at uz
    have G11 := Lib.hid (G10.out.trans (hg11.mono G10.out.size))
    have hx11 := (G11.out.block _ hm79).trans HX79.out
    have UZ := Lib.hid uz
    have HX11 := Lib.hid hx11
    clear how hg11 UWH hx11 uz
    go_wp2_with fail
    go_loopg [11, 62] 1 (fun gg s11 s62 wr => ∃ (j : Nat) (ga : Option Addr) (gn gc : Nat), gg = 1 - j ∧ j ≤ 1 ∧ s62 = .int .i64 (j : Int) ∧ s11 = .slice ga gn gc ∧ ((j = 0 ∧ ga = some ⟨w6.heap.size, 0, none⟩ ∧ gn = 2 ∧ gc = 2 ∧ wr = w11) ∨ (j = 1 ∧ wr.ownsRow w7.heap.size 38 1 (.slice ga gn gc) 3 (wordVals L))) ∧ Below w7.heap.size w7 wr)
    case atStart => exact ⟨0, _, _, _, rfl, by omega, rfl, rfl, Or.inl ⟨rfl, rfl, rfl, rfl, rfl⟩, G11.out⟩
    case round =>
      obtain ⟨j, ga, gn, gc, hgj, hj, rfl, rfl, hown, hbr⟩ := hrel
      have HGJ := Lib.hid hgj; have HBR := Lib.hid hbr
      have hzr := hbr.size
      rcases hown with ⟨rfl, rfl, rfl, rfl, rfl⟩ | ⟨rfl, hown⟩
      · have uz := UZ.out
        have K0 := Lib.hid (cellO HX11.out 0)
        have K1 := Lib.hid (cellO HX11.out 1)
        clear hgj hbr
        go_wp2_with (at_builtin; refine wpList_append_grows _ rfl _ _ 44 rfl 38 i2 (.int .u64 0) 1 8 Tryd.underlying44 hi2 hc0 hc1 hc2 rfl (by decide) (some ⟨w6.heap.size, 0, none⟩) 2 2 [.int .u64 (tc : Int), .int .u64 (m1 : Int)] rfl (fun h => by cases h) rfl ?c0 ⟨wr.heap.size, 0, none⟩ 1 1 [.int .u64 0] rfl rfl ?c1 ?c2 (by decide) (by decide) (by decide) ?_)
        case c0 =>
          intro b hb k u hk
          injection hb with hb
          subst hb
          have hlt6 : w6.heap.size < wr.heap.size := by omega
          match k, hk with
          | 0, hk => simp at hk; subst hk; exact (World.cell?_alloc_past _ w6.heap.size 0 hlt6).trans K0.out
          | 1, hk => simp at hk; subst hk; exact (World.cell?_alloc_past _ w6.heap.size 1 hlt6).trans K1.out
        case c1 =>
          intro k u hk
          match k, hk with
          | 0, hk => simp at hk; subst hk; simp [Addr.add]
        case c2 => intro u hu; simp at hu; subst hu; rfl
        intro v' w12 hown' hgrow
        obtain ⟨g12, c12, rfl, hg12, -⟩ := World.ownsRow.form hown' (by omega)
        have HO12 := Lib.hid (show w12.ownsRow w7.heap.size 38 1 (.slice (some ⟨g12, 0, none⟩) (2 + 1) c12) 3 (wordVals L) by
          rw [HL.out]
          exact owns_mono hown' (by first | omega | (simp; omega)))
        have HB12 := Lib.hid (show Below w7.heap.size w7 w12 from (HBR.out.alloc (by omega) _).grown hgrow (by first | omega | (simp; omega)) (fun q hq => by cases hq))
        clear hown' hgrow
        go_wp2_with fail
        go_roundg 0
        case measure => rw [HGJ.out]; omega
        case rel => exact ⟨1, _, _, _, rfl, by omega, by go_num, rfl, Or.inr ⟨rfl, HO12.out⟩, HB12.out⟩
      · have HO := Lib.hid (show wr.ownsRow w.heap.size 38 1 (.slice ga gn gc) (2 + cz M a) (wordVals L) by rw [H1.out]; exact owns_mono hown hT9)
        have HBW := Lib.hid (HB7.out.trans (hbr.mono HB7.out.size))
        clear hgj hown hbr
        go_wp2_with fail
        exact bodyPost_ret (v := .slice ga gn gc) (by simp [results, Tryd.results32, go_sem]) rfl ⟨_, rfl, HO.out, HBW.out⟩
  · have hkq : (vk == 2) = false := by simpa using hk2
    obtain ⟨q, rfl⟩ := Int.eq_ofNat_of_zero_le (show 0 ≤ s by omega)
    have hc3 : cz M a = q := by rw [czv, if_neg hk2, Int.toNat_natCast]
    have hL5 : L.length = 2 + q := by have := OL.out; omega
    go_wp2_with fail
    go_loopg [11, 74] q (fun gg s11 s74 wr => ∃ (j : Nat) (ga : Option Addr) (gn gc : Nat), gg = q - j ∧ j ≤ q ∧ s74 = .int .i64 (j : Int) ∧ s11 = .slice ga gn gc ∧ ((j = 0 ∧ ga = some ⟨w6.heap.size, 0, none⟩ ∧ gn = 2 ∧ gc = 2) ∨ (0 < j ∧ wr.ownsRow w7.heap.size 38 1 (.slice ga gn gc) (2 + j) (wordVals (L.take (2 + j))))) ∧ Below w7.heap.size w7 wr)
    case atStart => exact ⟨0, _, _, _, rfl, by omega, rfl, rfl, Or.inl ⟨rfl, rfl, rfl, rfl⟩, Below.refl _ _⟩
    case round =>
      obtain ⟨j, ga, gn, gc, hgj, hj, rfl, rfl, hown, hbr⟩ := hrel
      have HGJ := Lib.hid hgj; have HOWN := Lib.hid hown; have HBR := Lib.hid hbr
      have HBW := Lib.hid (HB7.out.trans (hbr.mono HB7.out.size))
      have hzw : w.heap.size ≤ w7.heap.size := HB7.out.size
      by_cases hlt : j < q
      · have GT := GET.out wr j (by omega) hk2 HBW.out
        have hy := MS.out (a + 2 + j)
        have HN := Lib.hid (ON.out j hk2 (by omega))
        obtain ⟨y, hye⟩ : ∃ y, M (a + 2 + j) = y := ⟨_, rfl⟩
        rw [hye] at GT hy HN
        have TY := Lib.hid (fun W (hW : Below w.heap.size w W) => TU.out W y hy hW)
        obtain ⟨ty, hty⟩ : ∃ ty, turnM M T y = ty := ⟨_, rfl⟩
        rw [hty] at HN TY
        have GTH := Lib.hid GT
        clear hye hty GT hgj hown hbr
        go_wp2_with fail
        refine GTH.out.mono ?_
        rintro e w8 ⟨rfl, hg8⟩
        have HB8 := Lib.hid (HBW.out.trans (hg8.mono HBW.out.size))
        have HBR8 := Lib.hid (HBR.out.trans (hg8.mono HBR.out.size))
        have hx8 := (HBR8.out.block _ hm7).trans HX7.out
        have u0 := cellO hx8 0
        have u1 := cellO hx8 1
        simp at u0 u1
        clear hx8
        go_wp2_with fail
        refine (TY.out w8 HB8.out).mono ?_
        rintro e w9 ⟨rfl, hg9⟩
        have HB9 := Lib.hid (HB8.out.trans (hg9.mono HB8.out.size))
        have HBR9 := Lib.hid (HBR8.out.trans (hg9.mono HBR8.out.size))
        have G9 := Lib.hid ((hg8.trans (hg9.mono hg8.size)))
        have hz9 : w7.heap.size ≤ w9.heap.size := HBR9.out.size
        clear hg9 hg8 u0 u1
        rcases HOWN.out with ⟨rfl, rfl, rfl, rfl⟩ | ⟨hj0, hown⟩
        · have hx9 := (HBR9.out.block _ hm79).trans HX79.out
          have k0 := cellO hx9 0
          have k1 := cellO hx9 1
          simp at k0 k1
          have K0 := Lib.hid k0; have K1 := Lib.hid k1
          clear hx9 k0 k1
          go_wp2_with (at_builtin; refine wpList_append_grows _ rfl _ _ 44 rfl 38 i2 (.int .u64 0) 1 8 Tryd.underlying44 hi2 hc0 hc1 hc2 rfl (by decide) (some ⟨w6.heap.size, 0, none⟩) 2 2 [.int .u64 (tc : Int), .int .u64 (m1 : Int)] rfl (fun h => by cases h) rfl ?c0 ⟨w9.heap.size, 0, none⟩ 1 1 [.int .u64 (ty : Int)] rfl rfl ?c1 ?c2 (by decide) (by decide) (by decide) ?_)
          case c0 =>
            intro b hb k u hk
            injection hb with hb
            subst hb
            have hlt6 : w6.heap.size < w9.heap.size := by omega
            match k, hk with
            | 0, hk => simp at hk; subst hk; exact (World.cell?_alloc_past _ w6.heap.size 0 hlt6).trans K0.out
            | 1, hk => simp at hk; subst hk; exact (World.cell?_alloc_past _ w6.heap.size 1 hlt6).trans K1.out
          case c1 =>
            intro k u hk
            match k, hk with
            | 0, hk => simp at hk; subst hk; simp [Addr.add]
          case c2 => intro u hu; simp at hu; subst hu; rfl
          intro v' w10 hown' hgrow 
          obtain ⟨g10, c10, rfl, hg10, -⟩ := World.ownsRow.form hown' (by omega)
          have HO10 := Lib.hid (show w10.ownsRow w7.heap.size 38 1 (.slice (some ⟨g10, 0, none⟩) (2 + 0 + 1) c10) (2 + 0 + 1) (wordVals (L.take (2 + 0 + 1))) by
            rw [HN.out, show wordVals (L.take (2 + 0) ++ [ty]) = wordVals (L.take (2 + 0)) ++ [.int .u64 (ty : Int)] by simp [wordVals]]
            rw [O2.out]; exact owns_mono hown' (by first | omega | (simp; omega)))
          have HB10 := Lib.hid (show Below w7.heap.size w7 w10 from (HBR9.out.alloc (by omega) _).grown hgrow (by first | omega | (simp; omega)) (fun q hq => by cases hq))
          clear hown' hgrow
          go_wp2_with fail
          go_roundg (q - (0 + 1))
          case measure => rw [HGJ.out]; omega
          case rel => exact ⟨0 + 1, _, _, _, rfl, by omega, by go_num, rfl, Or.inr ⟨by omega, HO10.out⟩, HB10.out⟩
        · have HO9 := Lib.hid (owns_later hown G9.out)
          clear hown
          go_wp2_with (at_builtin; refine wpList_append_own _ rfl _ _ 44 rfl w7.heap.size 38 i2 (.int .u64 0) 1 8 Tryd.underlying44 hi2 hc0 hc1 hc2 rfl (by decide) _ _ _ rfl (HO9.out.alloc _) ⟨w9.heap.size, 0, none⟩ 1 1 [.int .u64 (ty : Int)] rfl rfl ?c1 ?c2 ?c3 ?c4 ?c5 ?_)
          case c1 =>
            intro k u hk
            match k, hk with
            | 0, hk => simp at hk; subst hk; simp [Addr.add]
          case c2 => intro u hu; simp at hu; subst hu; rfl
          case c3 => unfold maxLen; omega
          case c4 => omega
          case c5 => simp; omega
          intro v' w10 hown' hgrow _
          obtain ⟨g10, c10, rfl, hg10, -⟩ := World.ownsRow.form hown' (by omega)
          have HO10 := Lib.hid (show w10.ownsRow w7.heap.size 38 1 (.slice (some ⟨g10, 0, none⟩) (2 + j + 1) c10) (2 + j + 1) (wordVals (L.take (2 + j + 1))) by
            rw [HN.out, show wordVals (L.take (2 + j) ++ [ty]) = wordVals (L.take (2 + j)) ++ [.int .u64 (ty : Int)] by simp [wordVals]]
            exact hown')
          have HB10 := Lib.hid (show Below w7.heap.size w7 w10 from (HBR9.out.alloc (by omega) _).grown hgrow (by simp; omega) (fun q hq => (HO9.out.lt q hq).1))
          clear hown' hgrow
          go_wp2_with fail
          go_roundg (q - (j + 1))
          case measure => rw [HGJ.out]; omega
          case rel => exact ⟨j + 1, _, _, _, rfl, by omega, by go_num, rfl, Or.inr ⟨by omega, HO10.out⟩, HB10.out⟩
      · obtain rfl : j = q := by omega
        rcases HOWN.out with ⟨h0, -⟩ | ⟨-, hown⟩
        · omega
        · have HO := Lib.hid (show wr.ownsRow w.heap.size 38 1 (.slice ga gn gc) (2 + cz M a) (wordVals L) by
            rw [hc3]
            rw [show L.take (2 + j) = L from List.take_of_length_le (by omega)] at hown
            exact owns_mono hown hzw)
          clear hgj hown hbr
          go_wp2_with fail
          exact bodyPost_ret (v := .slice ga gn gc) (by simp [results, Tryd.results32, go_sem]) rfl ⟨_, rfl, HO.out, HBW.out⟩
end Go.Proofs.YtobajnodckiohaaDoor
