/- An object's words, turned. -/
import Derived.Test.YtibopjjicfiimaaGreatDoorCollD
import Derived.Test.YtibopjjicfiimaaGreatDoorPackUnw
import Derived.Lib.AppendZerosOnto
import Derived.ArgAppend
namespace Go.Proofs.YtibopjjicfiimaaGreatDoor
open Go.RowKit
set_option linter.unusedVariables false
set_option maxRecDepth 100000 in
theorem bytes_own (B h N free a n : Nat) (S : Nat → Bool) (M : Nat → Nat) (w : World) (H : HeapAt w B h N free S M) (R : IsRaw S M N a n) (hn : n ≤ 1048576) :
    Calls Tryz.prog 72 #[.pointer (some ⟨h, 0, none⟩), .int .u64 (a * 2 : Int)] w fun e w' => ∃ g, e = .returned (.tuple #[.slice (some ⟨g, 0, none⟩) n n, .int .i64 0]) ∧ BytesAt w' (.slice (some ⟨g, 0, none⟩) n n) (rawL M a n) ∧ Below w.heap.size w w' := by
  have RR := Lib.hid R
  obtain ⟨r1, r2, r3, r4, r5, r6⟩ := R
  have HD := Lib.hid (hHead_yes B h N free a S M w H r1 (by omega) r3 r4)
  rw [r5, r6] at HD
  have BY := Lib.hid (fun W i (hW : Below w.heap.size w W) (hi : i < n) => byte_any B h N free a n i S M W (H.later hW) RR.out hi)
  clear H r3 r4 r5 r6
  generalize hH (M (a + 1)) = vh at *
  generalize hM (M (a + 1)) = vm at *
  have hmk : ∀ W, (Instr.makeSlice 43 (.int .i64 (n : Int)) (.int .i64 (n : Int))).run Tryz.prog W = .ok (.slice (some ⟨W.heap.size, 0, none⟩) n n) (W.alloc (.cells (madeCells #[.int .u8 0] n) 5)) :=
    fun W => run_make_row' (P := Tryz.prog) 43 5 (.int .u8 0) 1 Tryz.underlying43 byteInfo rfl .i64 .i64 n (by omega) (by omega) W
  go_enter Tryz.func72, Tryz.ntmps72
  go_wp2_with fail
  refine HD.out.mono ?_
  rintro e w1 ⟨rfl, hg⟩
  have HG1 := Lib.hid hg; clear hg
  have hs1 := HG1.out.size
  have HR0 := Lib.hid (show ((w1.alloc (.cells #[.int .u64 (M a : Int), .int .i64 2, .int .i64 (n : Int), .int .u32 vh, .bool vm] 119)).alloc (.cells (madeCells #[.int .u8 0] n) 5)).rowIs (w1.heap.size + 1) 5 n (fun _ => .int .u8 0) from by
    have := World.rowIs_made (w1.alloc (.cells #[.int .u64 (M a : Int), .int .i64 2, .int .i64 (n : Int), .int .u32 vh, .bool vm] 119)) (.int .u8 0) n 5
    rw [show (w1.alloc (.cells #[.int .u64 (M a : Int), .int .i64 2, .int .i64 (n : Int), .int .u32 vh, .bool vm] 119)).heap.size = w1.heap.size + 1 by simp] at this
    exact this)
  have HB0 := Lib.hid (show Below w.heap.size w ((w1.alloc (.cells #[.int .u64 (M a : Int), .int .i64 2, .int .i64 (n : Int), .int .u32 vh, .bool vm] 119)).alloc (.cells (madeCells #[.int .u8 0] n) 5)) from (HG1.out.alloc hs1 _).alloc (by simp; omega) _)
  have hgw : w.heap.size ≤ w1.heap.size + 1 := by omega
  go_wp2_with fail
  generalize w1.heap.size + 1 = g0 at *
  go_loopg [27] n (fun gg j wr => ∃ k : Nat, gg = n - k ∧ k ≤ n ∧ j = .int .i64 k ∧ wr.rowIs g0 5 n (fun i => if i < k then .int .u8 (byteIn (M (a + 2 + i / 8)) (i % 8) : Int) else .int .u8 0) ∧ Below w.heap.size w wr)
  case atStart => exact ⟨0, rfl, by omega, rfl, HR0.out.congr fun i hi => by rw [if_neg (by omega)], HB0.out⟩
  case round =>
    obtain ⟨k, hgk, hk, rfl, hr, hb⟩ := hrel
    have HK := Lib.hid hgk; have HB := Lib.hid hb; have HR := Lib.hid hr; clear hgk
    by_cases hlt : k < n
    · have hlg := hr.lt
      have B1 := Lib.hid (BY.out wr k hb hlt)
      clear hr hb
      go_wp2_with fail
      refine B1.out.mono ?_
      rintro e w3 ⟨rfl, hg3⟩
      have hr3 := HR.out.of_block (hg3.block g0 hlg)
      have hc3 := hr3.cell hlt
      rw [if_neg (by omega)] at hc3
      have hf3 := hr3.frozen k
      have hl3 := hr3.lt
      have HR3 := Lib.hid ((hr3.set k (.int .u8 (byteIn (M (a + 2 + k / 8)) (k % 8) : Int))).congr (g := fun i => if i < k + 1 then .int .u8 (byteIn (M (a + 2 + i / 8)) (i % 8) : Int) else .int .u8 0) fun i hi => by
        by_cases e : i = k
        · subst e; rw [if_pos rfl, if_pos (by omega)]
        · rw [if_neg e]
          by_cases e2 : i < k
          · rw [if_pos e2, if_pos (by omega)]
          · rw [if_neg e2, if_neg (by omega)])
      have HB3 := Lib.hid ((HB.out.trans (hg3.mono HB.out.size)).setCell (p := ⟨g0, k, none⟩) hgw (.int .u8 (byteIn (M (a + 2 + k / 8)) (k % 8) : Int)))
      clear hr3 hg3
      generalize byteIn (M (a + 2 + k / 8)) (k % 8) = bv at *
      go_wp2_with fail
      go_roundg (n - (k + 1))
      case measure => rw [HK.out]; omega
      case rel => exact ⟨k + 1, rfl, by omega, by go_num, HR3.out, HB3.out⟩
    · obtain rfl : k = n := by omega
      have HBY := Lib.hid (bytes_of_row (cap := k) (L := rawL M a k) hr (by rw [rawL_len]; exact Nat.le_refl _) (fun i hi => by
        rw [rawL_len] at hi
        rw [if_pos hi]
        have hb := byteIn_lt (M (a + 2 + i / 8)) (i % 8)
        simp only [rawL, List.getElem_map, List.getElem_range]
        congr 1
        have : (UInt8.ofNat (byteIn (M (a + 2 + i / 8)) (i % 8))).toNat = byteIn (M (a + 2 + i / 8)) (i % 8) % 256 := by simp
        rw [this, Nat.mod_eq_of_lt hb]) (by rw [rawL_len]; exact Nat.le_refl _) (by unfold maxLen; omega))
      have hlen := rawL_len M a k
      clear hr hb
      go_wp2_with fail
      refine bodyPost_ret (v := .tuple #[.slice (some ⟨g0, 0, none⟩) k k, .int .i64 0]) (by simp [results, Tryz.results72, go_sem]) rfl ⟨_, rfl, ?_, HB.out⟩
      have := HBY.out
      rwa [hlen] at this
theorem zeroCells_at (p k : Nat) (hk : k < p) : (Builtin.zeroCells #[Value.int .u8 0] p)[k]? = some (.int .u8 0) := by
  have h : (Builtin.zeroCells #[Value.int .u8 0] p).size = p := by simp [Builtin.zeroCells]
  rw [Array.getElem?_eq_getElem (by omega)]
  simp [Builtin.zeroCells, Nat.mod_one]
theorem zerosN (l : List UInt8) (p k : Nat) (hk : k < l.length + p) : ((Lib.byteCells l).toArray ++ Builtin.zeroCells #[Value.int .u8 0] p)[k]? = (Lib.byteCells (l ++ List.replicate p 0))[k]? := by
  rw [Array.getElem?_append]
  have hs : (Lib.byteCells l).toArray.size = l.length := by simp [Lib.byteCells]
  rw [hs]
  by_cases h : k < l.length
  · rw [if_pos h]
    simp only [Lib.byteCells, List.map_append]
    rw [List.getElem?_append_left (by simpa using h)]
    simp [h]
  · rw [if_neg h, zeroCells_at p _ (by omega)]
    simp only [Lib.byteCells, List.map_append, List.getElem?_append_right (show (List.map (fun b : UInt8 => Value.int .u8 (b.toNat : Int)) l).length ≤ k by simp; omega), List.length_map, List.map_replicate]
    rw [List.getElem?_replicate, if_pos (by omega)]; rfl
/-- the bytes of an object, up to its last word's end -/
theorem rawL_pad {M : Nat → Nat} {a n q p : Nat} (hp : n + p = 8 * q) (h0 : p < 8) (h1 : 0 < n) (hz : M (a + 2 + q - 1) / 2 ^ (8 * (n % 8)) = 0) (hp1 : 0 < p) : rawL M a n ++ List.replicate p 0 = rawL M a (8 * q) := by
  apply List.ext_getElem
  · simp [rawL]; omega
  · intro i h2 h3
    have hi : i < 8 * q := by simpa [rawL] using h3
    by_cases h : i < n
    · rw [List.getElem_append_left (by rw [rawL_len]; exact h)]
      simp [rawL]
    · rw [List.getElem_append_right (by rw [rawL_len]; omega), List.getElem_replicate]
      simp only [rawL, List.getElem_map, List.getElem_range]
      have e1 : i / 8 = q - 1 := by omega
      have e2 : n % 8 ≤ i % 8 := by omega
      rw [e1, show a + 2 + (q - 1) = a + 2 + q - 1 by omega]
      have h4 : M (a + 2 + q - 1) < 2 ^ (8 * (n % 8)) := (Nat.div_eq_zero_iff.1 hz).resolve_left (by have := Nat.two_pow_pos (8 * (n % 8)); omega)
      have h5 : M (a + 2 + q - 1) / 2 ^ (8 * (i % 8)) = 0 := Nat.div_eq_of_lt (Nat.lt_of_lt_of_le h4 (Nat.pow_le_pow_right (by omega) (by omega)))
      unfold byteIn
      rw [h5]; rfl
theorem le_bytes {x : Nat} (hx : x < 18446744073709551616) : leVal ((List.range 8).map fun i => UInt8.ofNat (byteIn x i)) = x := by
  have h : ∀ i, (UInt8.ofNat (byteIn x i)).toNat = byteIn x i := fun i => by
    have := byteIn_lt x i
    simp; omega
  show leVal [UInt8.ofNat (byteIn x 0), UInt8.ofNat (byteIn x 1), UInt8.ofNat (byteIn x 2), UInt8.ofNat (byteIn x 3), UInt8.ofNat (byteIn x 4), UInt8.ofNat (byteIn x 5), UInt8.ofNat (byteIn x 6), UInt8.ofNat (byteIn x 7)] = x
  simp only [leVal, h]
  unfold byteIn
  omega
theorem rawL_words {M : Nat → Nat} {a q : Nat} (hsm : ∀ i, M i < 18446744073709551616) : wordsOf (rawL M a (8 * q)) q = (List.range q).map fun i => M (a + 2 + i) := by
  unfold wordsOf
  apply List.map_congr_left
  intro k hk
  have hk := List.mem_range.1 hk
  rw [show wordAt (rawL M a (8 * q)) k = leVal (((rawL M a (8 * q)).drop (8 * k)).take 8) from rfl]
  rw [show ((rawL M a (8 * q)).drop (8 * k)).take 8 = (List.range 8).map fun i => UInt8.ofNat (byteIn (M (a + 2 + k)) i) from ?_, le_bytes (hsm _)]
  apply List.ext_getElem
  · simp [rawL]; omega
  · intro i h2 h3
    have hi : i < 8 := by simpa using h3
    simp only [List.getElem_take, List.getElem_drop, rawL, List.getElem_map, List.getElem_range]
    rw [show (8 * k + i) / 8 = k by omega, show (8 * k + i) % 8 = i by omega]
theorem objW_two (M : Nat → Nat) (T : Nat → Bool) (a : Nat) : (objW M T a).take 2 = [turnM M T (M a), M (a + 1)] := rfl
theorem objW_next {M : Nat → Nat} {T : Nat → Bool} {a j : Nat} (hk : hK (M (a + 1)) ≠ 2) (hj : j < cz M a) : (objW M T a).take (2 + j + 1) = (objW M T a).take (2 + j) ++ [turnM M T (M (a + 2 + j))] := by
  have hl : 2 + j < (objW M T a).length := by rw [objW_len]; omega
  rw [List.take_succ_eq_append_getElem hl]
  have h := List.getElem?_eq_getElem hl
  obtain ⟨y, hy⟩ : ∃ y, (objW M T a)[2 + j]'hl = y := ⟨_, rfl⟩
  rw [hy] at h ⊢
  rw [objW, show 2 + j = j + 1 + 1 by omega, List.getElem?_cons_succ, List.getElem?_cons_succ, List.getElem?_map, List.getElem?_range hj] at h
  simp only [Option.map_some, if_neg hk] at h
  rw [Option.some.inj h]
theorem objW_nextR {M : Nat → Nat} {T : Nat → Bool} {a j : Nat} (hk : hK (M (a + 1)) = 2) (hj : j < cz M a) : (objW M T a).take (2 + j + 1) = (objW M T a).take (2 + j) ++ [M (a + 2 + j)] := by
  have hl : 2 + j < (objW M T a).length := by rw [objW_len]; omega
  rw [List.take_succ_eq_append_getElem hl]
  have h := List.getElem?_eq_getElem hl
  obtain ⟨y, hy⟩ : ∃ y, (objW M T a)[2 + j]'hl = y := ⟨_, rfl⟩
  rw [hy] at h ⊢
  rw [objW, show 2 + j = j + 1 + 1 by omega, List.getElem?_cons_succ, List.getElem?_cons_succ, List.getElem?_map, List.getElem?_range hj] at h
  simp only [Option.map_some, if_pos hk] at h
  rw [Option.some.inj h]
set_option maxRecDepth 100000 in
set_option maxHeartbeats 3200000 in
theorem words_turned (B h N free bS a : Nat) (S T : Nat → Bool) (M : Nat → Nat) (R : List Nat) (v : Value) (w : World) (H : HeapAt w B h N free S M) (c : CollOK N S M) (hs : Stay S M R T) (hP : PlanAt w N bS T M v) (ha : T a = true) :
    Calls Tryz.prog 34 #[.agg #[.pointer (some ⟨bS, 0, none⟩), v], .pointer (some ⟨h, 0, none⟩), .int .u64 (a * 2 : Int)] w fun e w' => ∃ v', e = .returned v' ∧ WordsAt w' v' (objW M T a) ∧ Below w.heap.size w w' := by
  obtain ⟨va, vn, vc, rfl⟩ : ∃ va vn vc, v = .slice va vn vc := by obtain ⟨-, B3, h2⟩ := hP; exact owns_slice h2
  have hN := c.most
  have hSa := hs.sub ha
  obtain ⟨o1, o2, oU, oH, oz⟩ := c.obj a hSa
  have hla := (c.lt hSa).2.1
  obtain ⟨i2, hi2, hc0, hc1, hc2⟩ := info_parts cellInfo
  have czv := cz4 oU (c.small _)
  have s0 : 0 ≤ hS (M (a + 1)) := by unfold hS; omega
  have TU := Lib.hid (fun W (x : Nat) (hx : x < 18446744073709551616) (hW : Below w.heap.size w W) => turn_any N bS x S T M R _ W c hs (hP.later hW) hx)
  have HDD := Lib.hid (fun W (hW : Below w.heap.size w W) => hHead_yes B h N free a S M W (H.later hW) (by omega) (by omega) hSa oU)
  have GET := Lib.hid (fun W (j : Nat) (hj : (j : Int) < hS (M (a + 1))) (hk : hK (M (a + 1)) ≠ 2) (hW : Below w.heap.size w W) => hget_yes B h N free a j S M W (H.later hW) (by omega) (by rw [if_neg hk] at czv; omega) hSa oU hk hj)
  have BYT := Lib.hid (fun W (hk : hK (M (a + 1)) = 2) (hW : Below w.heap.size w W) => bytes_own B h N free a (hS (M (a + 1))).toNat S M W (H.later hW) ⟨by omega, by rw [if_pos hk] at czv; omega, hSa, oU, hk, (Int.toNat_of_nonneg s0).symm⟩ (by have := oU.2.2.1; omega))
  have hsm := c.small a
  obtain ⟨tc0, tc1⟩ := turn_cls c hs hSa
  have tcs := turn_small c hs hsm
  have hck : checkZ (turnM M T (M a) : Int) (hK (M (a + 1))) (hS (M (a + 1))) (hH (M (a + 1))) = 0 := by
    have h1 := unOK_check oU (by omega) (by have := c.small (a + 1); omega)
    rw [checkZ_ok] at h1 ⊢
    omega
  have PY := pack_yes (turnM M T (M a) : Int) (hK (M (a + 1))) (hS (M (a + 1))) (hH (M (a + 1))) (hM (M (a + 1))) (by omega) (by omega) (by unfold hH; omega) hck
  rw [packZ_back.2 oU.2.2.2.2] at PY
  have PYH := Lib.hid PY
  have hcz : cellsZ (turnM M T (M a) : Int) (hK (M (a + 1))) (hS (M (a + 1))) (hH (M (a + 1))) = (cz M a : Int) := by
    rw [czv]; unfold cellsZ
    rw [if_pos hck]
    by_cases hk : hK (M (a + 1)) = 2
    · rw [if_pos hk, if_pos hk]; omega
    · rw [if_neg hk, if_neg hk, Int.toNat_of_nonneg (by omega)]
  have CZ := cells_any (turnM M T (M a) : Int) (hK (M (a + 1))) (hS (M (a + 1))) (hH (M (a + 1))) (hM (M (a + 1))) (by omega) (by omega)
  rw [hcz] at CZ
  have CZH := Lib.hid CZ
  have O2 := Lib.hid (objW_two M T a)
  have ON := Lib.hid (fun j hk hj => objW_next (M := M) (T := T) (a := a) (j := j) hk hj)
  have OR := Lib.hid (fun hk j hj => objW_nextR (M := M) (T := T) (a := a) (j := j) hk hj)
  have RP := Lib.hid (fun q p (hk : hK (M (a + 1)) = 2) (hp : (hS (M (a + 1))).toNat + p = 8 * q) (h0 : p < 8) (h1 : 0 < p) (hq : q = cz M a) => rawL_pad (M := M) (a := a) hp h0 (by have := (oz hk).1; omega) (by
    have := (oz hk).2
    rw [hq, show (hS (M (a + 1))).toNat % 8 = (hS (M (a + 1)) % 8).toNat by omega]
    exact this) h1)
  have RW := Lib.hid (rawL_words (M := M) (a := a) (q := cz M a) c.small)
  have OL := Lib.hid (objW_len M T a)
  have MS := Lib.hid c.small
  have OZ := Lib.hid (fun hk => (oz hk).1)
  have hs1 := oU.2.2.1
  obtain ⟨L, hL⟩ : ∃ L, objW M T a = L := ⟨_, rfl⟩
  rw [hL] at O2 ON OR OL ⊢
  obtain ⟨tc, htc⟩ : ∃ tc, turnM M T (M a) = tc := ⟨_, rfl⟩
  rw [htc] at PYH CZH O2 tcs
  have TC := Lib.hid (fun W (hW : Below w.heap.size w W) => TU.out W (M a) hsm hW)
  rw [htc] at TC
  obtain ⟨m0, hm0⟩ : ∃ m0, M a = m0 := ⟨_, rfl⟩
  rw [hm0] at HDD TC
  obtain ⟨m1, hm1⟩ : ∃ m1, M (a + 1) = m1 := ⟨_, rfl⟩
  rw [hm1] at HDD PYH CZH O2 GET BYT ON OR RP OZ czv s0 hs1
  generalize hK (m1 : Int) = vk at *
  generalize hM (m1 : Int) = vm at *
  generalize hH (m1 : Int) = vh at *
  generalize hS (m1 : Int) = s at *
  clear H c hs hP ha hSa oU oH oz hsm hck PY hcz CZ tc0 tc1 hL htc hm0 hm1 o2
  go_enter Tryz.func34, Tryz.ntmps34
  go_upto_region 1 with fail
  obtain ⟨w1, hw1⟩ : ∃ w1, w1 = w.alloc (.cells #[.pointer (some ⟨bS, 0, none⟩), .slice va vn vc] 86) := ⟨_, rfl⟩
  rw [← hw1]
  have hx1 : w1.heap[w.heap.size]? = some (.cells #[.pointer (some ⟨bS, 0, none⟩), .slice va vn vc] 86 (0, 0)) := by rw [hw1]; exact heap_alloc_new w _
  have hb1 : Below w.heap.size w w1 := by rw [hw1]; exact (Below.refl _ w).alloc (Nat.le_refl _) _
  have HD1 := Lib.hid (HDD.out w1 hb1)
  have HX1 := Lib.hid hx1; have HB1 := Lib.hid hb1
  clear hw1 hx1 hb1 HDD
  go_wp2_with fail
  refine HD1.out.mono ?_
  rintro e w2 ⟨rfl, hg2⟩
  have HB2 := Lib.hid (HB1.out.trans (hg2.mono HB1.out.size))
  have HX2 := Lib.hid ((hg2.block _ (Array.getElem?_eq_some_iff.1 HX1.out).1).trans HX1.out)
  clear hg2 HD1 HX1
  go_upto_region 2 with fail
  obtain ⟨w3, hw3⟩ : ∃ w3, w3 = w2.alloc (.cells #[.int .u64 (m0 : Int), .int .i64 vk, .int .i64 s, .int .u32 vh, .bool vm] 119) := ⟨_, rfl⟩
  rw [← hw3]
  have hx7 : w3.heap[w2.heap.size]? = some (.cells #[.int .u64 (m0 : Int), .int .i64 vk, .int .i64 s, .int .u32 vh, .bool vm] 119 (0, 0)) := by rw [hw3]; exact heap_alloc_new w2 _
  have hg3 : Below w2.heap.size w2 w3 := by rw [hw3]; exact (Below.refl _ w2).alloc (Nat.le_refl _) _
  have HB3 := Lib.hid (HB2.out.trans (hg3.mono HB2.out.size))
  have hx3 := (hg3.block _ (Array.getElem?_eq_some_iff.1 HX2.out).1).trans HX2.out
  have hm3 := (Array.getElem?_eq_some_iff.1 hx3).1
  have hm37 := (Array.getElem?_eq_some_iff.1 hx7).1
  have hm2 : w.heap.size < w2.heap.size := (Array.getElem?_eq_some_iff.1 HX2.out).1
  have u0 := cellO hx3 0
  have u1 := cellO hx3 1
  have v0 := cellO hx7 0
  simp at u0 u1 v0
  have HX3 := Lib.hid hx3; have HX7 := Lib.hid hx7
  clear hw3 hg3 hx3 hx7 HX2
  go_wp2_with fail
  refine (TC.out w3 HB3.out).mono ?_
  rintro e w4 ⟨rfl, hg4⟩
  have HB4 := Lib.hid (HB3.out.trans (hg4.mono HB3.out.size))
  have HX4 := Lib.hid ((hg4.block _ hm3).trans HX3.out)
  have hx47 := (hg4.block _ hm37).trans HX7.out
  have hm47 := (Array.getElem?_eq_some_iff.1 hx47).1
  have v0 := cellO hx47 0
  have f0 : w4.frozen? ⟨w2.heap.size, 0, none⟩ = false := by unfold World.frozen?; rw [hx47]; rfl
  simp at v0
  have HX47 := Lib.hid hx47
  clear hg4 u0 u1 hx47 HX3 HX7
  go_upto_region 3 with fail
  obtain ⟨w5, hw5⟩ : ∃ w5, w5 = w4.setCell ⟨w2.heap.size, 0, none⟩ (.int .u64 (tc : Int)) := ⟨_, rfl⟩
  rw [← hw5]
  have hx57 : w5.heap[w2.heap.size]? = some (.cells #[.int .u64 (tc : Int), .int .i64 vk, .int .i64 s, .int .u32 vh, .bool vm] 119 (0, 0)) := by rw [hw5]; exact heap_setCell_same _ _ _ _ _ _ HX47.out
  have hx5 : w5.heap[w.heap.size]? = some (.cells #[.pointer (some ⟨bS, 0, none⟩), .slice va vn vc] 86 (0, 0)) := by rw [hw5, Below.heap_setCell _ _ _ _ (by simp; omega)]; exact HX4.out
  have hb5 : Below w.heap.size w w5 := by rw [hw5]; exact HB4.out.setCell (p := ⟨w2.heap.size, 0, none⟩) (by simp; omega) _
  have v0 := cellO hx57 0
  have v1 := cellO hx57 1
  have v2 := cellO hx57 2
  have v3 := cellO hx57 3
  have v4 := cellO hx57 4
  have hm57 := (Array.getElem?_eq_some_iff.1 hx57).1
  have hm5 := (Array.getElem?_eq_some_iff.1 hx5).1
  simp at v0 v1 v2 v3 v4
  have HX57 := Lib.hid hx57; have HX5 := Lib.hid hx5; have HB5 := Lib.hid hb5
  clear hw5 hx57 hx5 hb5 HX47 HX4
  go_wp2_with fail
  refine (PYH.out w5).mono ?_
  rintro e w6 ⟨rfl, hg6⟩
  have HB6 := Lib.hid (HB5.out.trans (hg6.mono HB5.out.size))
  have HX6 := Lib.hid ((hg6.block _ hm5).trans HX5.out)
  have HX67 := Lib.hid ((hg6.block _ hm57).trans HX57.out)
  clear hg6 v0 v1 v2 v3 v4 HX5 HX57
  go_upto_region 4 with fail
  obtain ⟨w7, hw7⟩ : ∃ w7, w7 = w6.alloc (.cells #[.int .u64 (tc : Int), .int .u64 (m1 : Int)] 141) := ⟨_, rfl⟩
  rw [← hw7]
  have hx79 : w7.heap[w6.heap.size]? = some (.cells #[.int .u64 (tc : Int), .int .u64 (m1 : Int)] 141 (0, 0)) := by rw [hw7]; exact heap_alloc_new w6 _
  have hg7 : Below w6.heap.size w6 w7 := by rw [hw7]; exact (Below.refl _ w6).alloc (Nat.le_refl _) _
  have HB7 := Lib.hid (HB6.out.trans (hg7.mono HB6.out.size))
  have hx7 := (hg7.block _ (Array.getElem?_eq_some_iff.1 HX6.out).1).trans HX6.out
  have hx77 := (hg7.block _ (Array.getElem?_eq_some_iff.1 HX67.out).1).trans HX67.out
  have v1 := cellO hx77 1
  have v2 := cellO hx77 2
  have hm7 := (Array.getElem?_eq_some_iff.1 hx7).1
  have hm77 := (Array.getElem?_eq_some_iff.1 hx77).1
  have hm79 := (Array.getElem?_eq_some_iff.1 hx79).1
  simp at v1 v2
  have HX7 := Lib.hid hx7; have HX77 := Lib.hid hx77; have HX79 := Lib.hid hx79
  clear hw7 hg7 hx7 hx77 hx79 HX6 HX67
  by_cases hk2 : vk = 2
  · subst hk2
    obtain ⟨n, rfl⟩ := Int.eq_ofNat_of_zero_le s0
    have hn8 := OZ.out rfl
    obtain ⟨q, hq⟩ : ∃ q, cz M a = q := ⟨_, rfl⟩
    have h1 : q = n / 8 + 1 := by rw [← hq, czv, if_pos rfl]; omega
    obtain ⟨p, hp⟩ : ∃ p, n + p = 8 * q := ⟨8 * q - n, by omega⟩
    have hp7 : p < 8 ∧ 0 < p := by omega
    have BYH := Lib.hid (BYT.out w7 rfl HB7.out)
    rw [Int.toNat_natCast] at BYH
    have HPAD := Lib.hid (RP.out q p rfl (by rw [Int.toNat_natCast]; exact hp) hp7.1 hp7.2 hq.symm)
    rw [Int.toNat_natCast] at HPAD
    have RN := Lib.hid (fun j (hj : j < q) => OR.out rfl j (by rw [hq]; exact hj))
    rw [hq] at CZH OL RW
    have H1 := Lib.hid hq
    have hLq : L.length = 2 + q := OL.out
    have hlr := rawL_len M a n
    have HPZ := Lib.hid (show 8 * (q : Int) - (n : Int) = (p : Int) by omega)
    have HQ1 := Lib.hid h1
    have hq1 : 0 < q ∧ q ≤ 200000 := by omega
    clear h1
    obtain ⟨i0, hi0, hz0, hs0, hb0⟩ := info_parts byteInfo
    have hT9 : w.heap.size ≤ w7.heap.size := HB7.out.size
    clear czv hq GET BYT OR RP OL
    go_wp2_with fail
    refine BYH.out.mono ?_
    rintro e w8 ⟨g8, rfl, hby, hg8⟩
    have HB8 := Lib.hid (HB7.out.trans (hg8.mono HB7.out.size))
    have hx87 := (hg8.block _ hm77).trans HX77.out
    have HX89 := Lib.hid ((hg8.block _ hm79).trans HX79.out)
    have v0 := cellO hx87 0
    have v1 := cellO hx87 1
    have v2 := cellO hx87 2
    have v3 := cellO hx87 3
    have v4 := cellO hx87 4
    simp at v0 v1 v2 v3 v4
    have HBY := Lib.hid hby
    have G8 := Lib.hid hg8
    clear hby hg8 hx87 BYH
    go_wp2_with fail
    refine (CZH.out w8).mono ?_
    rintro e w9 ⟨rfl, hg9⟩
    have HB9 := Lib.hid (HB8.out.trans (hg9.mono HB8.out.size))
    have HX99 := Lib.hid ((hg9.block _ (Array.getElem?_eq_some_iff.1 HX89.out).1).trans HX89.out)
    have G9 := Lib.hid (G8.out.trans (hg9.mono G8.out.size))
    have hby9 := HBY.out.later hg9
    have hcell9 : ∀ j u, (Lib.byteCells (rawL M a n))[j]? = some u → w9.cell? ((⟨g8, 0, none⟩ : Addr).add j) = some u := by
      obtain ⟨aa, cc, he, -, -, hr, -⟩ := hby9
      simp only [Value.slice.injEq] at he
      obtain ⟨rfl, -, -⟩ := he
      exact RowAt.add hr
    have hold : (Builtin.firstCells i0.size n (.slice (some ⟨g8, 0, none⟩) n n)).run Tryz.prog w9.drew = .ok (Lib.byteCells (rawL M a n)).toArray w9.drew :=
      run_firstCells_some w9.drew i0.size n ⟨g8, 0, none⟩ n n _ (by rw [hs0, Lib.byteCells_length, hlr]; simp) hcell9
    have hap := fun ty => Lib.run_append_grow_zeros (P := Tryz.prog) w9 43 3 ty 5 i0 (.int .u8 0) .i64 .i64 Tryz.underlying43 Tryz.underlying3 hi0 hz0 (some ⟨g8, 0, none⟩) n n _ hold p (by omega) (by rw [hs0]; omega) (by omega) (by omega) (by rw [hb0]; omega) (growslice_fits (by omega) (by rw [hb0]; omega))
    have hge := grownCap_ge w9 (n + p) n 5
    have hle := grownCap_le_maxLen w9 (n + p) n 5 (by unfold maxLen; omega)
    generalize grownCap w9 (n + p) n 5 = gcp at *
    rw [← HPZ.out] at hap
    have HAP := Lib.hid hap
    have HGE := Lib.hid hge; have HLE := Lib.hid hle
    clear hap hold hcell9 hby9 hg9 v0 v1 v2 v3 v4 hge hle
    go_wp2_with (at_builtin; refine Lib.wpList_append_run _ rfl _ _ _ _ rfl _ _ rfl rfl _ _ (HAP.out _) ?_)
    generalize hw10 : (w9.alloc _).drew = w10
    have hby10 : BytesAt w10 (.slice (some ⟨w9.heap.size, 0, none⟩) (8 * q) gcp) (rawL M a (8 * q)) := by
      have hl8 := rawL_len M a (8 * q)
      refine ⟨_, gcp, by rw [hl8], by rw [hl8, ← hp]; exact HGE.out, HLE.out, Or.inr ⟨w9.heap.size, 0, rfl, fun k hk => ?_⟩, fun h => by cases h⟩
      have hblk := heap_alloc_new w9 (.cells ((Lib.byteCells (rawL M a n)).toArray ++ (Builtin.zeroCells #[Value.int .u8 0] p ++ Builtin.zeroCells #[Value.int .u8 0] (gcp - 8 * q))) 5)
      have hc : w10.cell? ⟨w9.heap.size, 0 + k, none⟩ = ((Lib.byteCells (rawL M a n)).toArray ++ (Builtin.zeroCells #[Value.int .u8 0] p ++ Builtin.zeroCells #[Value.int .u8 0] (gcp - 8 * q)))[0 + k]? := by
        rw [← hw10]; exact cellO hblk _
      have hk8 : k < n + p := by rw [Lib.byteCells_length, hl8] at hk; omega
      rw [hc, Nat.zero_add, ← Array.append_assoc, Array.getElem?_append_left (by simp [Lib.byteCells, hlr, Builtin.zeroCells]; omega), zerosN _ _ _ (by rw [hlr]; exact hk8), HPAD.out]
    have hb10 : Below w9.heap.size w9 w10 := by rw [← hw10]; exact ((Below.refl _ w9).alloc (Nat.le_refl _) _).drew
    have UW := unwords_yes _ _ q w10 hby10 (by rw [rawL_len]) (by omega)
    rw [RW.out] at UW
    have UWH := Lib.hid UW
    have G10 := Lib.hid (G9.out.trans (hb10.mono G9.out.size))
    clear hw10 hby10 UW hb10 HAP HBY
    refine UWH.out.mono ?_
    rintro e w11 ⟨u, rfl, how, hg11⟩
    obtain ⟨ug, uc, rfl, hu1, hu2⟩ := World.ownsRow.form how (by omega)
    have G11 := Lib.hid (G10.out.trans (hg11.mono G10.out.size))
    have hx11 := (G11.out.block _ hm79).trans HX79.out
    have HX11 := Lib.hid hx11
    have hzz : w10.heap.size ≤ w11.heap.size := hg11.size
    have HOW := Lib.hid how
    have hug : w10.heap.size ≤ ug := by have := how.lt ug rfl; exact this.1
    have hugl : ug < w11.heap.size := by have := how.lt ug rfl; exact this.2
    clear how hg11 UWH hx11
    go_wp2_with fail
    go_loopg [11, 62] q (fun gg s11 s62 wr => ∃ (j : Nat) (ga : Option Addr) (gn gc : Nat), gg = q - j ∧ j ≤ q ∧ s62 = .int .i64 (j : Int) ∧ s11 = .slice ga gn gc ∧ ((j = 0 ∧ ga = some ⟨w6.heap.size, 0, none⟩ ∧ gn = 2 ∧ gc = 2) ∨ (0 < j ∧ wr.ownsRow w11.heap.size 39 1 (.slice ga gn gc) (2 + j) (wordVals (L.take (2 + j))))) ∧ Below w11.heap.size w11 wr)
    case atStart => exact ⟨0, _, _, _, rfl, by omega, rfl, rfl, Or.inl ⟨rfl, rfl, rfl, rfl⟩, Below.refl _ _⟩
    case round =>
      obtain ⟨j, ga, gn, gc, hgj, hj, rfl, rfl, hown, hbr⟩ := hrel
      have HGJ := Lib.hid hgj; have HOWN := Lib.hid hown; have HBR := Lib.hid hbr
      have hzr := hbr.size
      by_cases hlt : j < q
      · have hu := owns_later HOW.out hbr
        have uz : wr.cell? ⟨ug, j, none⟩ = some (.int .u64 (M (a + 2 + j) : Int)) := by
          have h1 := hu.cellAt j (by omega)
          rw [show (wordVals ((List.range q).map fun i => M (a + 2 + i)))[j]? = some (.int .u64 (M (a + 2 + j) : Int)) by simp [wordVals, hlt]] at h1
          simpa using h1
        have HN := Lib.hid (RN.out j hlt)
        obtain ⟨y, hye⟩ : ∃ y, M (a + 2 + j) = y := ⟨_, rfl⟩
        rw [hye] at uz HN
        have hx12 := (hbr.block _ (Array.getElem?_eq_some_iff.1 HX11.out).1).trans HX11.out
        have k0 := cellO hx12 0
        have k1 := cellO hx12 1
        simp at k0 k1
        have K0 := Lib.hid k0; have K1 := Lib.hid k1
        clear hye hgj hown hbr hu hx12 k0 k1
        rcases HOWN.out with ⟨rfl, rfl, rfl, rfl⟩ | ⟨hj0, hown⟩
        · go_wp2_with (at_builtin; refine wpList_append_grows _ rfl _ _ 40 rfl 39 i2 (.int .u64 0) 1 8 Tryz.underlying40 hi2 hc0 hc1 hc2 rfl (by decide) (some ⟨w6.heap.size, 0, none⟩) 2 2 [.int .u64 (tc : Int), .int .u64 (m1 : Int)] rfl (fun h => by cases h) rfl ?da0 ⟨wr.heap.size, 0, none⟩ 1 1 [.int .u64 (y : Int)] rfl rfl ?da1 ?da2 (by decide) (by decide) (by decide) ?_)
          case da0 =>
            intro k u hk
            have hz711 := G11.out.size
            have hlt6 : w6.heap.size < wr.heap.size := by omega
            match k, hk with
            | 0, hk => simp at hk; subst hk; exact (World.cell?_alloc_past _ w6.heap.size 0 hlt6).trans K0.out
            | 1, hk => simp at hk; subst hk; exact (World.cell?_alloc_past _ w6.heap.size 1 hlt6).trans K1.out
          case da2 => rfl
          intro v' w12 hown' hgrow
          obtain ⟨g12, c12, rfl, hg12, -⟩ := World.ownsRow.form hown' (by omega)
          have HO12 := Lib.hid (show w12.ownsRow w11.heap.size 39 1 (.slice (some ⟨g12, 0, none⟩) (2 + 0 + 1) c12) (2 + 0 + 1) (wordVals (L.take (2 + 0 + 1))) by
            rw [HN.out, show wordVals (L.take (2 + 0) ++ [y]) = wordVals (L.take (2 + 0)) ++ [.int .u64 (y : Int)] by simp [wordVals]]
            rw [O2.out]; exact owns_mono hown' (by first | omega | (simp; omega)))
          have HB12 := Lib.hid (show Below w11.heap.size w11 w12 from (HBR.out.alloc (by omega) _).grown hgrow (by first | omega | (simp; omega)) (fun q hq => by cases hq))
          clear hown' hgrow
          go_wp2_with fail
          go_roundg (q - (0 + 1))
          case measure => rw [HGJ.out]; omega
          case rel => exact ⟨0 + 1, _, _, _, rfl, by omega, by go_num, rfl, Or.inr ⟨by omega, HO12.out⟩, HB12.out⟩
        · have HO9 := Lib.hid hown
          clear hown
          go_wp2_with (at_builtin; refine wpList_append_own _ rfl _ _ 40 rfl w11.heap.size 39 i2 (.int .u64 0) 1 8 Tryz.underlying40 hi2 hc0 hc1 hc2 rfl (by decide) _ _ _ rfl (HO9.out.alloc _) ⟨wr.heap.size, 0, none⟩ 1 1 [.int .u64 (y : Int)] rfl rfl ?eb1 ?eb2 ?eb3 ?eb4 ?eb5 ?_)
          case eb1 =>
            intro k u hk
            match k, hk with
            | 0, hk => simp at hk; subst hk; simp [Addr.add]
          case eb2 => intro u hu; simp at hu; subst hu; rfl
          case eb3 => unfold maxLen; omega
          case eb4 => omega
          case eb5 => simp; omega
          intro v' w12 hown' hgrow _
          obtain ⟨g12, c12, rfl, hg12, -⟩ := World.ownsRow.form hown' (by omega)
          have HO12 := Lib.hid (show w12.ownsRow w11.heap.size 39 1 (.slice (some ⟨g12, 0, none⟩) (2 + j + 1) c12) (2 + j + 1) (wordVals (L.take (2 + j + 1))) by
            rw [HN.out, show wordVals (L.take (2 + j) ++ [y]) = wordVals (L.take (2 + j)) ++ [.int .u64 (y : Int)] by simp [wordVals]]
            exact hown')
          have HB12 := Lib.hid (show Below w11.heap.size w11 w12 from (HBR.out.alloc (by omega) _).grown hgrow (by simp; omega) (fun q hq => (HO9.out.lt q hq).1))
          clear hown' hgrow
          go_wp2_with fail
          go_roundg (q - (j + 1))
          case measure => rw [HGJ.out]; omega
          case rel => exact ⟨j + 1, _, _, _, rfl, by omega, by go_num, rfl, Or.inr ⟨by omega, HO12.out⟩, HB12.out⟩
      · obtain rfl : j = q := by omega
        rcases HOWN.out with ⟨h0, -⟩ | ⟨-, hown⟩
        · omega
        · have HO := Lib.hid (show wr.ownsRow w.heap.size 39 1 (.slice ga gn gc) (2 + cz M a) (wordVals L) by
            rw [H1.out]
            rw [show L.take (2 + j) = L from List.take_of_length_le (by omega)] at hown
            exact owns_mono hown (Nat.le_trans hT9 G11.out.size))
          have HBW := Lib.hid (HB7.out.trans ((G11.out.trans (hbr.mono G11.out.size)).mono HB7.out.size))
          clear hgj hown hbr
          go_wp2_with fail
          exact bodyPost_ret (v := .slice ga gn gc) (by simp [results, Tryz.results34, go_sem]) rfl ⟨_, rfl, words_of_owns HO.out, HBW.out⟩
  · have hkq : (vk == 2) = false := by simpa using hk2
    obtain ⟨q, rfl⟩ := Int.eq_ofNat_of_zero_le (show 0 ≤ s by omega)
    have hc3 : cz M a = q := by rw [czv, if_neg hk2, Int.toNat_natCast]
    have hL5 : L.length = 2 + q := by have := OL.out; omega
    go_wp2_with fail
    go_loopg [11, 74] q (fun gg s11 s74 wr => ∃ (j : Nat) (ga : Option Addr) (gn gc : Nat), gg = q - j ∧ j ≤ q ∧ s74 = .int .i64 (j : Int) ∧ s11 = .slice ga gn gc ∧ ((j = 0 ∧ ga = some ⟨w6.heap.size, 0, none⟩ ∧ gn = 2 ∧ gc = 2) ∨ (0 < j ∧ wr.ownsRow w7.heap.size 39 1 (.slice ga gn gc) (2 + j) (wordVals (L.take (2 + j))))) ∧ Below w7.heap.size w7 wr)
    case atStart => exact ⟨0, _, _, _, rfl, by omega, rfl, rfl, Or.inl ⟨rfl, rfl, rfl, rfl⟩, Below.refl _ _⟩
    case round =>
      obtain ⟨j, ga, gn, gc, hgj, hj, rfl, rfl, hown, hbr⟩ := hrel
      have HGJ := Lib.hid hgj; have HOWN := Lib.hid hown; have HBR := Lib.hid hbr
      have HBW := Lib.hid (HB7.out.trans (hbr.mono HB7.out.size))
      have hzw : w.heap.size ≤ w7.heap.size := HB7.out.size
      by_cases hlt : j < q
      · have GT := GET.out wr j (by omega) hk2 HBW.out
        have hy := MS.out (a + 2 + j)
        have HN := Lib.hid (ON.out j hk2 (by omega))
        obtain ⟨y, hye⟩ : ∃ y, M (a + 2 + j) = y := ⟨_, rfl⟩
        rw [hye] at GT hy HN
        have TY := Lib.hid (fun W (hW : Below w.heap.size w W) => TU.out W y hy hW)
        obtain ⟨ty, hty⟩ : ∃ ty, turnM M T y = ty := ⟨_, rfl⟩
        rw [hty] at HN TY
        have GTH := Lib.hid GT
        clear hye hty GT hgj hown hbr
        go_wp2_with fail
        refine GTH.out.mono ?_
        rintro e w8 ⟨rfl, hg8⟩
        have HB8 := Lib.hid (HBW.out.trans (hg8.mono HBW.out.size))
        have HBR8 := Lib.hid (HBR.out.trans (hg8.mono HBR.out.size))
        have hx8 := (HBR8.out.block _ hm7).trans HX7.out
        have u0 := cellO hx8 0
        have u1 := cellO hx8 1
        simp at u0 u1
        clear hx8
        go_wp2_with fail
        refine (TY.out w8 HB8.out).mono ?_
        rintro e w9 ⟨rfl, hg9⟩
        have HB9 := Lib.hid (HB8.out.trans (hg9.mono HB8.out.size))
        have HBR9 := Lib.hid (HBR8.out.trans (hg9.mono HBR8.out.size))
        have G9 := Lib.hid ((hg8.trans (hg9.mono hg8.size)))
        have hz9 : w7.heap.size ≤ w9.heap.size := HBR9.out.size
        clear hg9 hg8 u0 u1
        rcases HOWN.out with ⟨rfl, rfl, rfl, rfl⟩ | ⟨hj0, hown⟩
        · have hx9 := (HBR9.out.block _ hm79).trans HX79.out
          have k0 := cellO hx9 0
          have k1 := cellO hx9 1
          simp at k0 k1
          have K0 := Lib.hid k0; have K1 := Lib.hid k1
          clear hx9 k0 k1
          go_wp2_with (at_builtin; refine wpList_append_grows _ rfl _ _ 40 rfl 39 i2 (.int .u64 0) 1 8 Tryz.underlying40 hi2 hc0 hc1 hc2 rfl (by decide) (some ⟨w6.heap.size, 0, none⟩) 2 2 [.int .u64 (tc : Int), .int .u64 (m1 : Int)] rfl (fun h => by cases h) rfl ?c0 ⟨w9.heap.size, 0, none⟩ 1 1 [.int .u64 (ty : Int)] rfl rfl ?c1 ?c2 (by decide) (by decide) (by decide) ?_)
          case c0 =>
            intro b hb k u hk
            injection hb with hb
            subst hb
            have hlt6 : w6.heap.size < w9.heap.size := by omega
            match k, hk with
            | 0, hk => simp at hk; subst hk; exact (World.cell?_alloc_past _ w6.heap.size 0 hlt6).trans K0.out
            | 1, hk => simp at hk; subst hk; exact (World.cell?_alloc_past _ w6.heap.size 1 hlt6).trans K1.out
          case c1 =>
            intro k u hk
            match k, hk with
            | 0, hk => simp at hk; subst hk; simp [Addr.add]
          case c2 => intro u hu; simp at hu; subst hu; rfl
          intro v' w10 hown' hgrow 
          obtain ⟨g10, c10, rfl, hg10, -⟩ := World.ownsRow.form hown' (by omega)
          have HO10 := Lib.hid (show w10.ownsRow w7.heap.size 39 1 (.slice (some ⟨g10, 0, none⟩) (2 + 0 + 1) c10) (2 + 0 + 1) (wordVals (L.take (2 + 0 + 1))) by
            rw [HN.out, show wordVals (L.take (2 + 0) ++ [ty]) = wordVals (L.take (2 + 0)) ++ [.int .u64 (ty : Int)] by simp [wordVals]]
            rw [O2.out]; exact owns_mono hown' (by first | omega | (simp; omega)))
          have HB10 := Lib.hid (show Below w7.heap.size w7 w10 from (HBR9.out.alloc (by omega) _).grown hgrow (by first | omega | (simp; omega)) (fun q hq => by cases hq))
          clear hown' hgrow
          go_wp2_with fail
          go_roundg (q - (0 + 1))
          case measure => rw [HGJ.out]; omega
          case rel => exact ⟨0 + 1, _, _, _, rfl, by omega, by go_num, rfl, Or.inr ⟨by omega, HO10.out⟩, HB10.out⟩
        · have HO9 := Lib.hid (owns_later hown G9.out)
          clear hown
          go_wp2_with (at_builtin; refine wpList_append_own _ rfl _ _ 40 rfl w7.heap.size 39 i2 (.int .u64 0) 1 8 Tryz.underlying40 hi2 hc0 hc1 hc2 rfl (by decide) _ _ _ rfl (HO9.out.alloc _) ⟨w9.heap.size, 0, none⟩ 1 1 [.int .u64 (ty : Int)] rfl rfl ?c1 ?c2 ?c3 ?c4 ?c5 ?_)
          case c1 =>
            intro k u hk
            match k, hk with
            | 0, hk => simp at hk; subst hk; simp [Addr.add]
          case c2 => intro u hu; simp at hu; subst hu; rfl
          case c3 => unfold maxLen; omega
          case c4 => omega
          case c5 => simp; omega
          intro v' w10 hown' hgrow _
          obtain ⟨g10, c10, rfl, hg10, -⟩ := World.ownsRow.form hown' (by omega)
          have HO10 := Lib.hid (show w10.ownsRow w7.heap.size 39 1 (.slice (some ⟨g10, 0, none⟩) (2 + j + 1) c10) (2 + j + 1) (wordVals (L.take (2 + j + 1))) by
            rw [HN.out, show wordVals (L.take (2 + j) ++ [ty]) = wordVals (L.take (2 + j)) ++ [.int .u64 (ty : Int)] by simp [wordVals]]
            exact hown')
          have HB10 := Lib.hid (show Below w7.heap.size w7 w10 from (HBR9.out.alloc (by omega) _).grown hgrow (by simp; omega) (fun q hq => (HO9.out.lt q hq).1))
          clear hown' hgrow
          go_wp2_with fail
          go_roundg (q - (j + 1))
          case measure => rw [HGJ.out]; omega
          case rel => exact ⟨j + 1, _, _, _, rfl, by omega, by go_num, rfl, Or.inr ⟨by omega, HO10.out⟩, HB10.out⟩
      · obtain rfl : j = q := by omega
        rcases HOWN.out with ⟨rfl, rfl, rfl, rfl⟩ | ⟨-, hown⟩
        · have hx9 := (hbr.block _ hm79).trans HX79.out
          have k0 := cellO hx9 0
          have k1 := cellO hx9 1
          simp at k0 k1
          have HWA := Lib.hid (show WordsAt wr (.slice (some ⟨w6.heap.size, 0, none⟩) 2 2) L by
            have e2 := O2.out
            rw [List.take_of_length_le (by omega)] at e2
            rw [e2]
            refine ⟨_, 2, rfl, by simp, by unfold maxLen; omega, Or.inr ⟨w6.heap.size, 0, rfl, fun k hk => ?_⟩, fun h => by cases h⟩
            match k, hk with
            | 0, _ => simpa [wordVals] using k0
            | 1, _ => simpa [wordVals] using k1)
          clear hgj hown hbr hx9 k0 k1
          go_wp2_with fail
          exact bodyPost_ret (v := .slice (some ⟨w6.heap.size, 0, none⟩) 2 2) (by simp [results, Tryz.results34, go_sem]) rfl ⟨_, rfl, HWA.out, HBW.out⟩
        · have HO := Lib.hid (show wr.ownsRow w.heap.size 39 1 (.slice ga gn gc) (2 + cz M a) (wordVals L) by
            rw [hc3]
            rw [show L.take (2 + j) = L from List.take_of_length_le (by omega)] at hown
            exact owns_mono hown hzw)
          clear hgj hown hbr
          go_wp2_with fail
          exact bodyPost_ret (v := .slice ga gn gc) (by simp [results, Tryz.results34, go_sem]) rfl ⟨_, rfl, words_of_owns HO.out, HBW.out⟩
end Go.Proofs.YtibopjjicfiimaaGreatDoor
