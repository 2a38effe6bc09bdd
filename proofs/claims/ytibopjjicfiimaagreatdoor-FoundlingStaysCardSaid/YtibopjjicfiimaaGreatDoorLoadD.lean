/- The bytes of an image are told to be one. An image is memory again, where there is room. -/
import Derived.Test.YtibopjjicfiimaaGreatDoorImgE
import Derived.Test.YtibopjjicfiimaaGreatDoorLoadB
import Derived.Laws.MakeOwn
namespace Go.Proofs.YtibopjjicfiimaaGreatDoor
open Go.RowKit
set_option linter.unusedVariables false
set_option maxRecDepth 100000 in
set_option maxHeartbeats 1600000 in
theorem check_yes (v : Value) (L : List UInt8) (k q1 q2 : Nat) (w : World) (hv : BytesAt w v L) (hl : L.length = 36 + 8 * k) (hk : k ≤ 6000) (hfit : Fits L) (hq : wordVals (wordsOf ((L.take 32).drop 8) 3) = [.int .u64 (k : Int), .int .u64 (q1 : Int), .int .u64 (q2 : Int)]) :
    Calls Tryz.prog 44 #[v] w fun e w' => e = .returned (.tuple #[.agg #[.int .u64 (k : Int), .int .u64 (q1 : Int), .int .u64 (q2 : Int)], .int .i64 0]) ∧ Below w.heap.size w w' := by
  have kc := Go.Joins.run_convert_bytes_const_at (P := Tryz.prog) (w.alloc (.cells #[.int .u64 0, .int .u64 0, .int .u64 0] 104)) 43 5 #[.int .u8 70, .int .u8 78, .int .u8 68, .int .u8 76] 4 4 (w.heap.size + 1) (by simp) Tryz.underlying43 Tryz.underlying5
  have h4 := bytes_four (w.alloc (.cells #[.int .u64 0, .int .u64 0, .int .u64 0] 104))
  rw [show (w.alloc (.cells #[.int .u64 0, .int .u64 0, .int .u64 0] 104)).heap.size = w.heap.size + 1 by simp] at h4
  have PU := put_any _ [70, 78, 68, 76] 1 4 _ h4 (by simp)
  rw [headPut] at PU
  have PUH := Lib.hid PU
  have HB2 := Lib.hid (show Below w.heap.size w ((w.alloc (.cells #[.int .u64 0, .int .u64 0, .int .u64 0] 104)).alloc (.cells #[.int .u8 70, .int .u8 78, .int .u8 68, .int .u8 76] 5 (4, 5))) from ((Below.refl _ w).alloc (Nat.le_refl _) _).alloc (by simp) _)
  have HR2 := Lib.hid (show ((w.alloc (.cells #[.int .u64 0, .int .u64 0, .int .u64 0] 104)).alloc (.cells #[.int .u8 70, .int .u8 78, .int .u8 68, .int .u8 76] 5 (4, 5))).heap[w.heap.size]? = some (.cells #[.int .u64 0, .int .u64 0, .int .u64 0] 104 (0, 0)) from by rw [Below.heap_alloc _ _ _ (by simp)]; exact heap_alloc_new w _)
  clear h4 PU
  have HV := Lib.hid hv
  obtain ⟨hpx, hcrc⟩ := hfit
  have HCRC := Lib.hid hcrc
  have HQ := Lib.hid hq
  obtain ⟨a, cap, hve, l1, l2, l3, l4⟩ := hv
  have hae : ∃ b o, a = some ⟨b, o, none⟩ := by
    rcases l3 with h | ⟨b, o, h, -⟩
    · have : (Lib.byteCells L).length = 0 := by rw [h]; rfl
      rw [Lib.byteCells_length] at this; omega
    · exact ⟨b, o, h⟩
  obtain ⟨b, o, rfl⟩ := hae
  rw [hl] at hve l1
  subst hve
  unfold maxLen at l2
  clear l3 l4 hcrc hq
  go_enter Tryz.func44, Tryz.ntmps44
  go_wp2_with fail
  refine PUH.out.mono ?_
  rintro e w3 ⟨pv, rfl, hop, hg3⟩
  have HB3 := Lib.hid (HB2.out.trans (hg3.mono HB2.out.size))
  have HR3 := Lib.hid ((hg3.block w.heap.size (by simp; omega)).trans HR2.out)
  have HPX := Lib.hid (prefix_any _ pv L headL w3 (HV.out.later HB3.out) (bytes_of_owns hop) (by omega) (by decide))
  clear hop hg3 PUH kc HB2 HR2
  go_wp2_with fail
  refine HPX.out.mono ?_
  rintro e w4 ⟨rfl, rfl⟩
  have r0 := cellO HR3.out 0
  have r1 := cellO HR3.out 1
  have r2 := cellO HR3.out 2
  have fz : ∀ i, w4.frozen? ⟨w.heap.size, i, none⟩ = false := fun i => by unfold World.frozen?; rw [HR3.out]; rfl
  have fz0 := fz 0
  have fz1 := fz 1
  have fz2 := fz 2
  simp at r0 r1 r2
  clear fz
  rw [hpx]
  clear hpx
  skip
  have hp : BytesAt w4 (.slice (some ⟨b, o + 8, none⟩) 24 (cap - 8)) ((L.take 32).drop 8) := by
    have h := HV.out.later HB3.out
    rw [← hl] at h
    have h2 := bytes_part h (m := 8) (n := 32) (by omega) (by omega)
    simpa [Addr.add] using h2
  have UW := Lib.hid (unwords_yes _ _ 3 w4 hp (by simp; omega) (by omega))
  have ncap : ¬ cap = 8 := by omega
  clear hp
  go_wp2_with fail
  refine UW.out.mono ?_
  rintro e w5 ⟨u, rfl, hou, hg5⟩
  have HB5 := Lib.hid (HB3.out.trans (hg5.mono HB3.out.size))
  have HR5 := Lib.hid ((hg5.block w.heap.size (Array.getElem?_eq_some_iff.1 HR3.out).1).trans HR3.out)
  obtain ⟨ug, uc, rfl, hu1, hu2⟩ := World.ownsRow.form hou (by omega)
  have u0 := hou.cellAt 0 (by omega)
  have u1 := hou.cellAt 1 (by omega)
  have u2 := hou.cellAt 2 (by omega)
  rw [HQ.out] at u0 u1 u2
  simp at u0 u1 u2
  clear hou hg5 UW r0 r1 r2 fz0 fz1 fz2
  go_upto_region 6 with fail
  go_cut [6] from 28 to 37 (fun s6 wx => ∃ P, s6 = .pointer (some ⟨P, 0, none⟩) ∧ w5.heap.size ≤ P ∧ wx.heap[P]? = some (.cells #[.int .u64 (k : Int), .int .u64 (q1 : Int), .int .u64 (q2 : Int)] 104 (0, 0)) ∧ Below w5.heap.size w5 wx)
  case first =>
    go_region
    all_goals (go_wp2_with fail)
    all_goals go_meet
    all_goals exact ⟨_, rfl, Nat.le_refl _, heap_alloc_new w5 _, ((Below.refl _ w5).alloc (Nat.le_refl _) _).drew⟩
  case rest =>
    obtain ⟨P, rfl, hP, hpq, hgx⟩ := hcut
    obtain ⟨w6, hw6⟩ : ∃ w6, w6 = wc := ⟨_, rfl⟩
    rw [← hw6] at hpq hgx ⊢
    clear hw6
    have HB6 := Lib.hid (HB5.out.trans (hgx.mono HB5.out.size))
    have HR6 := Lib.hid ((hgx.block w.heap.size (Array.getElem?_eq_some_iff.1 HR5.out).1).trans HR5.out)
    have c0 := cellO hpq 0
    have r0 := cellO HR6.out 0
    have r1 := cellO HR6.out 1
    have r2 := cellO HR6.out 2
    have fz : ∀ i, w6.frozen? ⟨w.heap.size, i, none⟩ = false := fun i => by unfold World.frozen?; rw [HR6.out]; rfl
    have fz0 := fz 0
    have fz1 := fz 1
    have fz2 := fz 2
    simp at c0 r0 r1 r2
    have HPQ := Lib.hid hpq
    clear fz hpq hgx u0 u1 u2
    have hv6 := HV.out.later HB6.out
    have hE : 36 + 8 * k = L.length := by omega
    have hg : BytesAt w6 (.slice (some ⟨b, o + (36 + 8 * k - 4), none⟩) (36 + 8 * k - (36 + 8 * k - 4)) (cap - (36 + 8 * k - 4))) (L.drop (L.length - 4)) := by
      rw [hE] at hv6
      have h2 := bytes_part hv6 (m := L.length - 4) (n := L.length) (by omega) (Nat.le_refl _)
      rw [List.take_length] at h2
      rw [hE]
      have e : (⟨b, o, none⟩ : Addr).add (L.length - 4) = ⟨b, o + (L.length - 4), none⟩ := by unfold Addr.add; rw [if_neg (by omega)]
      simpa [e] using h2
    have ht : BytesAt w6 (.slice (some ⟨b, o, none⟩) (36 + 8 * k - 4) cap) (L.take (L.length - 4)) := by
      rw [hE] at hv6 ⊢
      exact bytes_take hv6 (by omega)
    have GE := get_any _ _ 4 w6 hg
    have CR := crc_any _ _ w6 ht
    have hx4 := getN4_lt (L.drop (L.length - 4))
    have hcc := HCRC.out
    obtain ⟨X, hX⟩ : ∃ X, getN (L.drop (L.length - 4)) 4 = X := ⟨_, rfl⟩
    obtain ⟨ge, hge⟩ : ∃ ge : Int, (if clip8 4 ≤ (L.drop (L.length - 4)).length then (0 : Int) else 4) = ge := ⟨_, rfl⟩
    rw [hX, hge] at GE
    rw [hX] at hcc hx4
    rw [← hcc] at CR
    have GEH := Lib.hid GE; have CRH := Lib.hid CR
    clear hv6 hE hg ht GE CR hX hge hcc
    go_wp2_with fail
    all_goals try (exfalso; go_light; omega)
    refine GEH.out.mono ?_
    rintro e w7 ⟨rfl, rfl⟩
    go_wp2_with fail
    refine CRH.out.mono ?_
    rintro e w8 ⟨rfl, hg8⟩
    have HB8 := Lib.hid (HB6.out.trans (hg8.mono HB6.out.size))
    have HR8 := Lib.hid ((hg8.block w.heap.size (Array.getElem?_eq_some_iff.1 HR6.out).1).trans HR6.out)
    have HP8 := Lib.hid ((hg8.block P (Array.getElem?_eq_some_iff.1 HPQ.out).1).trans HPQ.out)
    clear c0 r0 r1 r2 fz0 fz1 fz2
    have c0 := cellO HP8.out 0
    have c1 := cellO HP8.out 1
    have c2 := cellO HP8.out 2
    have r0 := cellO HR8.out 0
    have r1 := cellO HR8.out 1
    have r2 := cellO HR8.out 2
    have fz : ∀ i, w8.frozen? ⟨w.heap.size, i, none⟩ = false := fun i => by unfold World.frozen?; rw [HR8.out]; rfl
    have fz0 := fz 0
    have fz1 := fz 1
    have fz2 := fz 2
    simp at c0 c1 c2 r0 r1 r2
    clear fz hg8
    go_wp2_with fail
    obtain ⟨wz, hwz⟩ : ∃ wz, wz = (((w8.setCell ⟨w.heap.size, 0, none⟩ (.int .u64 (k : Int))).setCell ⟨w.heap.size, 1, none⟩ (.int .u64 (q1 : Int))).setCell ⟨w.heap.size, 2, none⟩ (.int .u64 (q2 : Int))) := ⟨_, rfl⟩
    rw [← hwz]
    have hrr := HR8.out
    have rz : wz.heap[w.heap.size]? = some (.cells #[.int .u64 (k : Int), .int .u64 (q1 : Int), .int .u64 (q2 : Int)] 104 (0, 0)) := by rw [hwz, heap_setCell_same _ _ _ _ _ _ (heap_setCell_same _ _ _ _ _ _ (heap_setCell_same _ _ _ _ _ _ hrr))]; rfl
    have bz : Below w.heap.size w wz := by rw [hwz]; exact ((HB8.out.setCell (p := ⟨w.heap.size, 0, none⟩) (Nat.le_refl _) _).setCell (p := ⟨w.heap.size, 1, none⟩) (Nat.le_refl _) _).setCell (p := ⟨w.heap.size, 2, none⟩) (Nat.le_refl _) _
    have t0 := cellO rz 0
    have t1 := cellO rz 1
    have t2 := cellO rz 2
    simp at t0 t1 t2
    exact bodyPost_ret (v := .tuple #[.agg #[.int .u64 (k : Int), .int .u64 (q1 : Int), .int .u64 (q2 : Int)], .int .i64 0]) (by simp [results, Tryz.results44, go_sem, t0, t1, t2]) rfl ⟨rfl, bz⟩
end Go.Proofs.YtibopjjicfiimaaGreatDoor
namespace Go.Proofs.YtibopjjicfiimaaGreatDoor
open Go.RowKit
set_option linter.unusedVariables false
set_option maxRecDepth 100000 in
set_option maxHeartbeats 1600000 in
theorem decode_img (v : Value) (L : List UInt8) (k q2 N a : Nat) (ws l : List Nat) (c : Bool) (w : World) (hv : BytesAt w v L) (hl : L.length = 36 + 8 * k) (hk1 : 1 ≤ k) (hk : k ≤ 6000) (hfit : Fits L)
    (hq : wordVals (wordsOf ((L.take 32).drop 8) 3) = [.int .u64 (k : Int), .int .u64 ((0 : Nat) : Int), .int .u64 (q2 : Int)]) (hws : wordsOf ((L.take (36 + 8 * k - 4)).drop 32) k = ws) (hsm : SmallW ws)
    (h0 : 16 ≤ N) (h1 : N ≤ 6000) (hc : Chain4 (loadM ws) (2 + k) 2 l) (hqa : q2 = a * 2) (ha1 : 1 ≤ a) (ha2 : a < 16777216) (hal : 2 + k ≤ N → setAll N (fun _ => false) l a = true)
    (CL : 2 + k ≤ N → ∀ B h W, HeapAt W B h N (2 + k) (setAll N (fun _ => false) l) (loadM ws) → Below w.heap.size w W → Calls Tryz.prog 46 #[.pointer (some ⟨h, 0, none⟩)] W fun e w' => e = .returned (.bool c) ∧ Below W.heap.size W w') :
    Calls Tryz.prog 10 #[v, .int .i64 (N : Int)] w fun e w' => ∃ (x : Value) (z r : Int), e = .returned (.tuple #[x, .int .u64 z, .int .i64 r]) ∧ Below w.heap.size w w' ∧
      ((N < 2 + k ∧ r = 8 ∧ x = .pointer none) ∨ (2 + k ≤ N ∧ c = true ∧ r = 0 ∧ z = q2 ∧ ∃ B h, w.heap.size ≤ B ∧ x = .pointer (some ⟨h, 0, none⟩) ∧ HeapAt w' B h N (2 + k) (setAll N (fun _ => false) l) (loadM ws)) ∨ (2 + k ≤ N ∧ c = false ∧ r = 13 ∧ x = .pointer none)) := by
  have NW := Lib.hid (new_yes N h0 (by omega) w)
  have HV := Lib.hid hv
  have CK := Lib.hid (fun W (hW : Below w.heap.size w W) => check_yes v L k 0 q2 W (hv.later hW) hl (by omega) hfit hq)
  have hwl : ws.length = k := by rw [← hws]; simp [wordsOf]
  have HLO := Lib.hid (fun W u (hu : WordsAt W u ws) (hl : 2 + ws.length ≤ N) => load_yes N u ws l W hu hsm h0 h1 (by omega) hl (by rw [hwl]; exact hc))
  rw [hwl] at HLO
  have CLH := Lib.hid CL
  have HWS := Lib.hid hws; have HWL := Lib.hid hwl; have HAL := Lib.hid hal
  have HPART := Lib.hid hl
  obtain ⟨a0, cap, hve, l1, l2, l3, l4⟩ := hv
  have hae : ∃ b o, a0 = some ⟨b, o, none⟩ := by
    rcases l3 with h | ⟨b, o, h, -⟩
    · have : (Lib.byteCells L).length = 0 := by rw [h]; rfl
      rw [Lib.byteCells_length] at this; omega
    · exact ⟨b, o, h⟩
  obtain ⟨b, o, rfl⟩ := hae
  rw [hl] at hve l1
  subst hve
  unfold maxLen at l2
  have HQA := Lib.hid hqa
  clear l3 l4 hfit hq hws hsm hc hal CL hwl hl hqa
  go_enter Tryz.func10, Tryz.ntmps10
  go_wp2_with fail
  refine NW.out.mono ?_
  rintro e w1 ⟨h, rfl, -, hg1⟩
  have HB1 := Lib.hid hg1
  have CK1 := Lib.hid (CK.out w1 hg1)
  clear hg1 CK
  go_wp2_with fail
  refine CK1.out.mono ?_
  rintro e w2 ⟨rfl, hg2⟩
  have HB2 := Lib.hid (HB1.out.trans (hg2.mono HB1.out.size))
  clear hg2
  go_upto_region 5 with fail
  obtain ⟨w3, hw3⟩ : ∃ w3, w3 = w2.alloc (.cells #[.int .u64 (k : Int), .int .u64 0, .int .u64 (q2 : Int)] 104) := ⟨_, rfl⟩
  rw [← hw3]
  have hx3 : w3.heap[w2.heap.size]? = some (.cells #[.int .u64 (k : Int), .int .u64 0, .int .u64 (q2 : Int)] 104 (0, 0)) := by rw [hw3]; exact heap_alloc_new w2 _
  have hb3 : Below w2.heap.size w2 w3 := by rw [hw3]; exact (Below.refl _ w2).alloc (Nat.le_refl _) _
  have HB3 := Lib.hid (HB2.out.trans (hb3.mono HB2.out.size))
  have HX3 := Lib.hid hx3
  clear hw3 hb3 hx3
  have hp : BytesAt w3 (.slice (some ⟨b, o + 32, none⟩) (36 + 8 * k - 4 - 32) (cap - 32)) ((L.take (36 + 8 * k - 4)).drop 32) := by
    have h := HV.out.later HB3.out
    rw [← HPART.out] at h
    have h2 := bytes_part h (m := 32) (n := 36 + 8 * k - 4) (by omega) (by have := HPART.out; omega)
    simpa [Addr.add] using h2
  have UW := unwords_yes _ _ k w3 hp (by have := HPART.out; simp; omega) (by omega)
  rw [HWS.out] at UW
  have UWH := Lib.hid UW
  have ncap : ¬ cap = 32 := by omega
  clear hp UW
  go_upto_region 7 with fail
  go_wp2_with fail
  all_goals try (exfalso; go_light; omega)
  refine UWH.out.mono ?_
  rintro e w4 ⟨u, rfl, how, hg4⟩
  obtain ⟨ug, uc, rfl, hu1, hu2⟩ := World.ownsRow.form how (by omega)
  have HUW := Lib.hid (words_of_owns how)
  have HB4 := Lib.hid (HB3.out.trans (hg4.mono HB3.out.size))
  have HX4 := Lib.hid ((hg4.block w2.heap.size (Array.getElem?_eq_some_iff.1 HX3.out).1).trans HX3.out)
  obtain ⟨i1, hi1, hy0, hy1, hy2⟩ := info_parts cellInfo
  obtain ⟨w5, hmk, ho5, hg5⟩ := run_make_own (P := Tryz.prog) w4 w4.heap.size 40 39 i1 (.int .u64 0) 1 Tryz.underlying40 hi1 hy0 hy1 .i64 .i64 k (by rw [hy2]; omega) (by unfold maxLen; omega) (Nat.le_refl _)
  have hb5 : Below w4.heap.size w4 w5 := (Below.refl _ w4).grown hg5 (Nat.le_refl _) (fun q e => by cases e)
  have HO5 := Lib.hid ho5; have HG5 := Lib.hid hb5
  clear how hg4 hg5 ho5 hb5 UWH HX3
  go_upto_region 9 with fail
  clear hmk
  go_wp2_with fail
  go_loopg [13, 51] k (fun gg s13 s51 wr => ∃ (j : Nat) (a7 : Option Addr) (n7 c7 : Nat), gg = k - j ∧ j ≤ k ∧ s51 = .int .i64 (j : Int) ∧ s13 = .slice a7 n7 c7 ∧ wr.ownsRow w4.heap.size 39 1 (.slice a7 n7 c7) j (wordVals (ws.take j)) ∧ Below w4.heap.size w4 wr)
  case atStart => exact ⟨0, _, _, _, rfl, by omega, rfl, rfl, HO5.out, HG5.out⟩
  case round =>
    obtain ⟨j, a7, n7, c7, hgj, hj, rfl, rfl, hor, hbr⟩ := hrel
    have HGJ := Lib.hid hgj; have HOR := Lib.hid hor; have HBR := Lib.hid hbr
    have hzr := hbr.size
    by_cases hlt : j < k
    · obtain ⟨ua', uc', hue', -, -, hcu⟩ := (HUW.out.later hbr).get
      have hjl : j < ws.length := by rw [HWL.out]; exact hlt
      simp only [Value.slice.injEq] at hue'
      obtain ⟨rfl, -, rfl⟩ := hue'
      obtain ⟨ub, uo, hua, hul, huc⟩ := hcu j hjl
      simp only [Option.some.injEq, Addr.mk.injEq, and_true] at hua
      obtain ⟨rfl, rfl⟩ := hua
      obtain ⟨x, hx⟩ : ∃ x, ws[j]'hjl = x := ⟨_, rfl⟩
      rw [hx, Nat.zero_add] at huc
      have HX := Lib.hid (show ws.take (j + 1) = ws.take j ++ [x] by rw [List.take_succ_eq_append_getElem hjl, hx])
      clear hgj hor hbr hcu hx hjl
      go_wp2_with (at_builtin; refine wpList_append_own _ rfl _ _ 40 rfl w4.heap.size 39 i1 (.int .u64 0) 1 8 Tryz.underlying40 hi1 hy0 hy1 hy2 rfl (by decide) _ _ _ rfl (HOR.out.alloc _) ⟨wr.heap.size, 0, none⟩ 1 1 [.int .u64 (x : Int)] rfl rfl ?c1 ?c2 ?c3 ?c4 ?c5 ?_)
      case c1 =>
        intro k u hk
        match k, hk with
        | 0, hk => simp at hk; subst hk; simp [Addr.add]
      case c2 => intro u hu; simp at hu; subst hu; rfl
      case c3 => unfold maxLen; omega
      case c4 => omega
      case c5 => simp; omega
      intro v' w6 hown' hgrow _
      obtain ⟨g6, c6, rfl, hg6, -⟩ := World.ownsRow.form hown' (by omega)
      have hb6 : Below w4.heap.size w4 w6 := (HBR.out.alloc (by omega) _).grown hgrow (by simp; omega) (fun q hq => (HOR.out.lt q hq).1)
      have ho6 : w6.ownsRow w4.heap.size 39 1 (.slice (some ⟨g6, 0, none⟩) (j + 1) c6) (j + 1) (wordVals (ws.take (j + 1))) := by
        rw [HX.out, show wordVals (ws.take j ++ [x]) = wordVals (ws.take j) ++ [.int .u64 (x : Int)] by simp [wordVals]]
        exact hown'
      have HO6 := Lib.hid ho6; have HB6 := Lib.hid hb6
      clear hown' hgrow ho6 hb6
      go_wp2_with fail
      go_roundg (k - (j + 1))
      case measure => rw [HGJ.out]; omega
      case rel => exact ⟨j + 1, _, _, _, rfl, by omega, by go_num, rfl, HO6.out, HB6.out⟩
    · obtain rfl : j = k := by omega
      have hall : ws.take j = ws := List.take_of_length_le (by rw [HWL.out]; exact Nat.le_refl _)
      have hwa : WordsAt wr (.slice a7 n7 c7) ws := by
        have h := words_of_owns HOR.out
        rw [hall] at h
        exact h
      obtain ⟨ga, gc, hge, -, -, -⟩ := hwa.get
      simp only [Value.slice.injEq] at hge
      obtain ⟨rfl, hn7, rfl⟩ := hge
      rw [HWL.out] at hn7
      subst hn7
      have HWA := Lib.hid hwa
      have HB7 := Lib.hid (HB4.out.trans (hbr.mono HB4.out.size))
      have HX7 := Lib.hid ((hbr.block w2.heap.size (Array.getElem?_eq_some_iff.1 HX4.out).1).trans HX4.out)
      have x1 := cellO HX7.out 1
      have x2 := cellO HX7.out 2
      simp at x1 x2
      clear hgj hor hbr hall HOR HBR HUW hwa
      by_cases hfull : (N : Int) - 2 < n7
      · go_wp2_with fail
        exact bodyPost_ret (v := .tuple #[.pointer none, .int .u64 0, .int .i64 8]) (by simp [results, Tryz.results10, go_sem]) rfl ⟨.pointer none, 0, 8, rfl, HB7.out, Or.inl ⟨by omega, rfl, rfl⟩⟩
      · have LO := Lib.hid (HLO.out wr _ HWA.out (by omega))
        go_wp2_with fail
        refine LO.out.mono ?_
        rintro e w8 ⟨h8, rfl, hh8, hg8⟩
        have hwr := HB7.out.size
        have HB8 := Lib.hid (HB7.out.trans (hg8.mono hwr))
        have HX8 := Lib.hid ((hg8.block w2.heap.size (Array.getElem?_eq_some_iff.1 HX7.out).1).trans HX7.out)
        have HH8 := Lib.hid hh8
        have HA := hhas_yes _ h8 N (2 + n7) a _ (loadM ws) w8 hh8 ha1 ha2
        rw [HAL.out (by omega), ← show (q2 : Int) = (a : Int) * 2 by rw [HQA.out]; simp] at HA
        have HAH := Lib.hid HA
        clear hg8 hh8 HA x1 x2 LO
        have x1 := cellO HX8.out 1
        have x2 := cellO HX8.out 2
        simp at x1 x2
        go_wp2_with fail
        refine HAH.out.mono ?_
        rintro e w9 ⟨rfl, hg9⟩
        have HB9 := Lib.hid (HB8.out.trans (hg9.mono HB8.out.size))
        have HX9 := Lib.hid ((hg9.block w2.heap.size (Array.getElem?_eq_some_iff.1 HX8.out).1).trans HX8.out)
        have HH9 := Lib.hid (HH8.out.later hg9)
        have CLQ := Lib.hid (CLH.out (by omega) _ h8 w9 HH9.out HB9.out)
        clear hg9 x1 x2 HAH
        go_wp2_with fail
        refine CLQ.out.mono ?_
        rintro e w10 ⟨rfl, hg10⟩
        have HB10 := Lib.hid (HB9.out.trans (hg10.mono HB9.out.size))
        have HX10 := Lib.hid ((hg10.block w2.heap.size (Array.getElem?_eq_some_iff.1 HX9.out).1).trans HX9.out)
        have HH10 := Lib.hid (HH9.out.later hg10)
        have x2 := cellO HX10.out 2
        simp at x2
        clear hg10 CLQ
        cases c with
        | false =>
          go_wp2_with fail
          exact bodyPost_ret (v := .tuple #[.pointer none, .int .u64 0, .int .i64 13]) (by simp [results, Tryz.results10, go_sem]) rfl ⟨.pointer none, 0, 13, rfl, HB10.out, Or.inr ⟨by omega, rfl, rfl⟩⟩
        | true =>
          go_upto_region 23 with fail
          go_quiet (fail)
          go_wp2_with fail
          have hbz : Below w10.heap.size w10 (w10.drewN nq) := ⟨rfl, rfl, rfl, Nat.le_refl _, fun _ _ => rfl⟩
          exact bodyPost_ret (v := .tuple #[.pointer (some ⟨h8, 0, none⟩), .int .u64 (q2 : Int), .int .i64 0]) (by simp [results, Tryz.results10, go_sem]) rfl ⟨_, _, _, rfl, HB10.out.trans (hbz.mono HB10.out.size), Or.inr ⟨by omega, rfl, rfl, _, hwr, h8, rfl, HH10.out.later hbz⟩⟩
end Go.Proofs.YtibopjjicfiimaaGreatDoor
