/- The law's Lay: a town's memory. -/
import Derived.Test.YtibopjjicfiimaaGreatDoorStayO
namespace Go.Proofs.YtibopjjicfiimaaGreatDoor
open Go.RowKit Go.Maps
set_option linter.unusedVariables false
set_option maxRecDepth 100000 in
set_option maxHeartbeats 40000000 in
theorem tlay_any (s1 s2 : Option Addr) (n1 c1 n2 c2 : Nat) (w : World) (h1 : IntsIn w s1 n1) (h2 : IntsIn w s2 n2) (hn1 : n1 ≤ maxLen) (hn2 : n2 ≤ maxLen) :
    Calls Tryz.prog 4 #[.agg #[.slice s1 n1 c1, .slice s2 n2 c2]] w fun e w' => ∃ la ln lc r, e = .returned (.tuple #[.agg #[.int .i64 3000, .slice la ln lc, .int .u32 0], .int .u64 r]) ∧ TownQ w.heap.size w' la ln lc ∧ Below w.heap.size w w' := by
  obtain ⟨iS, hiS, zs0, zs1, zs2⟩ := info_parts strInfoT
  unfold maxLen at hn1 hn2
  have H1 := Lib.hid h1; have H2 := Lib.hid h2
  clear h1 h2
  have hmm := @run_makeMap Tryz.prog
  go_enter Tryz.func4, Tryz.ntmps4
  go_upto_region 2 with fail
  obtain ⟨w1, hw1⟩ : ∃ w1, w1 = ((((w.alloc (.cells #[.slice s1 n1 c1, .slice s2 n2 c2] 24)).alloc (.cells #[.int .i64 0, .slice none 0 0, .int .u32 0] 29)).alloc (.map #[] 0)).alloc (.cells #[.int .i64 3000, .slice none 0 0, .int .u32 0, .map (some (w.heap.size + 1 + 1)), .int .u64 0] 52)).alloc (.cells #[.pointer (some ⟨w.heap.size + 1 + 1 + 1, 0, none⟩)] 49) := ⟨_, rfl⟩
  rw [← hw1]
  have hz1 : w1.heap.size = w.heap.size + 1 + 1 + 1 + 1 + 1 := by rw [hw1]; simp
  have hb1 : Below w.heap.size w w1 := by rw [hw1]; exact (((((Below.refl _ w).alloc (Nat.le_refl _) _).alloc (by simp) _).alloc (by simp; omega) _).alloc (by simp; omega) _).alloc (by simp; omega) _
  have hX : w1.heap[w.heap.size]? = some (.cells #[.slice s1 n1 c1, .slice s2 n2 c2] 24 (0, 0)) := by
    rw [hw1, Below.heap_alloc _ _ _ (by simp <;> omega), Below.heap_alloc _ _ _ (by simp <;> omega), Below.heap_alloc _ _ _ (by simp <;> omega), Below.heap_alloc _ _ _ (by simp)]; exact heap_alloc_new w _
  have hR : w1.heap[w.heap.size + 1]? = some (.cells #[.int .i64 0, .slice none 0 0, .int .u32 0] 29 (0, 0)) := by
    rw [hw1, Below.heap_alloc _ _ _ (by simp <;> omega), Below.heap_alloc _ _ _ (by simp <;> omega), Below.heap_alloc _ _ _ (by simp)]
    have := heap_alloc_new (w.alloc (.cells #[.slice s1 n1 c1, .slice s2 n2 c2] 24)) (.cells #[.int .i64 0, .slice none 0 0, .int .u32 0] 29)
    simpa using this
  have hsb : w1.heap[w.heap.size + 1 + 1]? = some (.map #[] 0) := by
    rw [hw1, Below.heap_alloc _ _ _ (by simp <;> omega), Below.heap_alloc _ _ _ (by simp)]
    have := heap_alloc_new ((w.alloc (.cells #[.slice s1 n1 c1, .slice s2 n2 c2] 24)).alloc (.cells #[.int .i64 0, .slice none 0 0, .int .u32 0] 29)) (.map #[] 0)
    simpa using this
  have hP : w1.heap[w.heap.size + 1 + 1 + 1]? = some (.cells #[.int .i64 3000, .slice none 0 0, .int .u32 0, .map (some (w.heap.size + 1 + 1)), .int .u64 0] 52 (0, 0)) := by
    rw [hw1, Below.heap_alloc _ _ _ (by simp)]
    have := heap_alloc_new (((w.alloc (.cells #[.slice s1 n1 c1, .slice s2 n2 c2] 24)).alloc (.cells #[.int .i64 0, .slice none 0 0, .int .u32 0] 29)).alloc (.map #[] 0)) (.cells #[.int .i64 3000, .slice none 0 0, .int .u32 0, .map (some (w.heap.size + 1 + 1)), .int .u64 0] 52)
    simpa using this
  have h4 : w1.heap[w.heap.size + 1 + 1 + 1 + 1]? = some (.cells #[.pointer (some ⟨w.heap.size + 1 + 1 + 1, 0, none⟩)] 49 (0, 0)) := by
    rw [hw1]
    have := heap_alloc_new ((((w.alloc (.cells #[.slice s1 n1 c1, .slice s2 n2 c2] 24)).alloc (.cells #[.int .i64 0, .slice none 0 0, .int .u32 0] 29)).alloc (.map #[] 0)).alloc (.cells #[.int .i64 3000, .slice none 0 0, .int .u32 0, .map (some (w.heap.size + 1 + 1)), .int .u64 0] 52)) (.cells #[.pointer (some ⟨w.heap.size + 1 + 1 + 1, 0, none⟩)] 49)
    simpa using this
  clear hw1
  obtain ⟨sb, hsbe⟩ : ∃ sb, w.heap.size + 1 + 1 = sb := ⟨_, rfl⟩
  rw [hsbe] at hz1 hsb hP h4 ⊢
  obtain ⟨P, hPe⟩ : ∃ P, sb + 1 = P := ⟨_, rfl⟩
  rw [hPe] at hz1 hP h4 ⊢
  obtain ⟨T4, h4e⟩ : ∃ T4, P + 1 = T4 := ⟨_, rfl⟩
  rw [h4e] at hz1 h4 ⊢
  have o1 : w.heap.size + 1 < sb := by omega
  have o2 : sb < P := by omega
  have o3 : P < T4 := by omega
  have o4 : T4 < w1.heap.size := by omega
  have B1 := Lib.hid hb1; have HX1 := Lib.hid hX; have HR1 := Lib.hid hR; have H41 := Lib.hid h4
  have TW1 := Lib.hid (show Twn w.heap.size P sb w1 none 0 0 0 [] from ⟨by omega, hP, ⟨[], rfl, Or.inl ⟨rfl, rfl, rfl, rfl⟩⟩, by decide⟩)
  have MS1 := Lib.hid (show MapS 30 w1 sb (fun _ => none) 0 from (MapS.made w).block' hsb)
  clear hz1 hb1 hX hR hsb hP h4 hsbe hPe h4e
  go_wp2_with fail
  refine (refkernel_any w1).mono ?_
  rintro e w2 ⟨v, rfl, ho2, hg2⟩
  obtain ⟨va, vn, vc, rfl⟩ := owns_slice ho2
  obtain ⟨T5, h5e⟩ : ∃ T5, w2.heap.size = T5 := ⟨_, rfl⟩
  obtain ⟨w3, hw3⟩ : ∃ w3, w3 = w2.alloc (.cells #[.slice va vn vc] 53) := ⟨_, rfl⟩
  have hg3 : Below w1.heap.size w1 w3 := by rw [hw3]; exact hg2.alloc hg2.size _
  have h53 : w3.heap[T5]? = some (.cells #[.slice va vn vc] 53 (0, 0)) := by rw [hw3, ← h5e]; exact heap_alloc_new w2 _
  have ho3 : w3.ownsRow w1.heap.size 9 1 (.slice va vn vc) 16 (strV knL) := by rw [hw3]; exact ho2.alloc _
  have o5 : w1.heap.size ≤ T5 := by rw [← h5e]; exact hg2.size
  have o6 : T5 < w3.heap.size := (Array.getElem?_eq_some_iff.1 h53).1
  go_upto_block 0 with fail
  rw [← hw3]
  have G3 := Lib.hid hg3; have H53 := Lib.hid h53; have O3 := Lib.hid ho3
  clear hw3 hg2 ho2 hg3 h53 ho3 h5e
  go_cut [6] from 44 to 62 (fun s6 wx => NamesAt w1 T5 n1 wx)
--<<1
  case first =>
    as_aux_lemma =>
    go_wp2_with fail
    go_loopg [6] 6 (fun gg s6 wr => ∃ (i : Nat) (nv : Value) (nms : List ByteArray), gg = 6 - i ∧ i ≤ 6 ∧ s6 = .int .i64 (i : Int) ∧ nms.length = 16 + i ∧ wr.heap[T5]? = some (.cells #[nv] 53 (0, 0)) ∧ wr.ownsRow w1.heap.size 9 1 nv (16 + i) (strV nms) ∧ (∀ s ∈ nms, 0 < s.size % 8 ∧ s.size ≤ 24) ∧ Below w1.heap.size w1 wr ∧ T5 < wr.heap.size ∧ (i ≤ n1))
    case atStart => exact ⟨0, _, knL, rfl, by omega, rfl, by decide, H53.out, O3.out, by decide, G3.out, o6, by omega⟩
    case round =>
      obtain ⟨i, nv, nms, hgi, hi, rfl, hnl, h5r, hor, hnm, hbr, hTr, hin⟩ := hrel
      have HGI := Lib.hid hgi; have HNL := Lib.hid hnl; have H5 := Lib.hid h5r; have HO := Lib.hid hor; have HNM := Lib.hid hnm; have HBR := Lib.hid hbr
      have hx := (hbr.block w.heap.size (by omega)).trans HX1.out
      have x0 := cellO hx 0
      simp at x0
      have y5 := cellO h5r 0
      have f5 : wr.frozen? ⟨T5, 0, none⟩ = false := by unfold World.frozen?; rw [h5r]; rfl
      simp at y5
      have hzr := hbr.size
      clear hgi hnl h5r hnm hbr hx
      obtain ⟨na, nn, nc, rfl⟩ := owns_slice hor
      clear hor
      by_cases hlt : i < n1 ∧ i < 6
      · obtain ⟨hi1, hi2⟩ := hlt
        obtain ⟨j, hj⟩ : ∃ j, i = j := ⟨_, rfl⟩
        have HIJ := Lib.hid hj
        rcases (show i = 0 ∨ i = 1 ∨ i = 2 ∨ i = 3 ∨ i = 4 ∨ i = 5 by omega) with rfl | rfl | rfl | rfl | rfl | rfl
        all_goals (
          clear hj
          have hi1' := Int.ofNat_lt.2 hi1
          simp at hi1'
          go_upto_region 6 with fail
          go_wp2_with (at_builtin; refine wpList_append_own _ rfl _ _ 53 rfl w1.heap.size 9 iS (.string ⟨#[]⟩) 1 16 Tryz.underlying53 hiS zs0 zs1 zs2 rfl (by decide) _ _ _ rfl (HO.out.alloc _) ⟨wr.heap.size, 0, none⟩ 1 1 (strV [ownN j]) rfl rfl ?e1 ?e2 ?e3 ?e4 ?e5 ?_)
          case e1 =>
            intro k u hk
            match k, hk with
            | 0, hk =>
              simp [strV] at hk
              subst hk
              rw [← HIJ.out]
              simp [Addr.add, ownN]
          case e2 => exact strV_ones _
          case e3 => unfold maxLen; omega
          case e4 => omega
          case e5 => simp; omega
          intro v7 w7 hown7 hgr7 _
          obtain ⟨va7, vn7, vc7, rfl⟩ := owns_slice hown7
          have hs7 := hgr7.size
          simp at hs7
          have h57 := (hgr7.block T5 (by simp; omega) (own_neS HO.out H5.out (by decide))).trans ((Below.heap_alloc _ _ _ (by omega)).trans H5.out)
          have y5' := cellO h57 0
          have f5' : w7.frozen? ⟨T5, 0, none⟩ = false := by unfold World.frozen?; rw [h57]; rfl
          simp at y5'
          have F5 := Lib.hid (heap_setCell_same w7 T5 0 _ _ (.slice va7 vn7 vc7) h57)
          have FO := Lib.hid (owns_setOther (p := T5) (j := 0) (u := .slice va7 vn7 vc7) hown7 (own_neS hown7 h57 (by decide)))
          have FB := Lib.hid (((HBR.out.alloc (by omega) _).grown hgr7 (by simp; omega) (fun q hq => (HO.out.lt q hq).1)).setCell (p := ⟨T5, 0, none⟩) o5 (.slice va7 vn7 vc7))
          have FN := Lib.hid (show ∀ s ∈ nms ++ [ownN j], 0 < s.size % 8 ∧ s.size ≤ 24 from fun s hs => by
            rcases List.mem_append.1 hs with hs | hs
            · exact HNM.out s hs
            · rw [List.mem_singleton.1 hs]; exact ownN_ok j (by have := HIJ.out; omega))
          clear hown7 hgr7 h57 y5 f5
          go_wp2_with fail
          go_roundg (6 - (j + 1))
          case measure => rw [HGI.out]; have := HIJ.out; omega
          case rel =>
            have hj := HIJ.out
            subst hj
            refine ⟨_, _, nms ++ [ownN _], rfl, by omega, rfl, by rw [List.length_append, HNL.out]; rfl, F5.out, ?_, FN.out, FB.out, by simp [World.setCell]; omega, by omega⟩
            rw [show ∀ y, strV (nms ++ [y]) = strV nms ++ strV [y] from fun y => by simp [strV]]
            exact FO.out)
      · have HEND := Lib.hid (show NamesAt w1 T5 n1 wr from ⟨_, i, nms, HNL.out, hi, hin, H5.out, HO.out, HNM.out, HBR.out, hTr⟩)
        by_cases hi1 : i < n1
        · have hi6 : ¬ i < 6 := fun h => hlt ⟨hi1, h⟩
          clear hlt
          go_wp2_with fail
          all_goals try (exfalso; go_light; omega)
          all_goals go_meet
          all_goals exact HEND.out
        · clear hlt
          go_wp2_with fail
          all_goals try (exfalso; go_light; omega)
          all_goals go_meet
          all_goals exact HEND.out
-->>1
  case rest =>
  as_aux_lemma =>
  clear G3 H53 O3
  obtain ⟨w4, hw4⟩ : ∃ w4, w4 = wc := ⟨_, rfl⟩
  rw [← hw4] at hcut ⊢
  clear hw4
  obtain ⟨nv, i0, nms, hnl, hi6, hin0, h5w, how, hnm, hb4, hT4⟩ := hcut
  obtain ⟨nb, nc, rfl, hnb⟩ := owns_shape how (by omega)
  have G4 := Lib.hid hb4; have HN := Lib.hid hnl; have HNM := Lib.hid hnm; have H5 := Lib.hid h5w; have HO := Lib.hid how
  have hs4 := hb4.size
  obtain ⟨nn, hnn⟩ : ∃ nn, 16 + i0 = nn := ⟨_, rfl⟩
  rw [hnn] at H5 HO HN
  have hnn1 : 16 ≤ nn ∧ nn ≤ 22 := by omega
  have hnx : nn ≤ 16 + n1 := by omega
  have hnbl := (how.lt nb (by simp [Value.ownBlock])).2
  have TW4 := Lib.hid (TW1.out.later hb4)
  have MS4 := Lib.hid (MS1.out.later hb4)
  have H44 := Lib.hid ((hb4.block T4 o4).trans H41.out)
  have B4 := Lib.hid (B1.out.trans (hb4.mono B1.out.size))
  clear hnl hnm h5w how hb4 hnn TW1 MS1 hi6 hin0
  clear i0
  have z4 := cellO H44.out 0
  simp at z4
  have hP4 := TW4.out.lt
  have hT4w : T4 < w4.heap.size := by omega
  have hmk : ∀ W, (Instr.makeSlice 56 (.int .i64 24) (.int .i64 24)).run Tryz.prog W = .ok (.slice (some ⟨W.heap.size, 0, none⟩) 24 24) (W.alloc (.cells (madeCells #[.int .u64 0] 24) 30)) :=
    fun W => run_make_row' (P := Tryz.prog) 56 30 (.int .u64 0) 8 Tryz.underlying56 wordInfo rfl .i64 .i64 24 (by omega) (by omega) W
  go_upto_region 7 with fail
  go_cut [] from 63 to 68 (fun wx => ∃ x la lc, Twn w.heap.size P sb wx la 1 lc x [(2, 1, 24)] ∧ x = 4 ∧ Fr (fun q => q = P) w4 wx ∧ Below w.heap.size w4 wx)
--<<2
  case first =>
    as_aux_lemma =>
    have gW : Below w4.heap.size w4 (w4.alloc (.cells (madeCells #[.int .u64 0] 24) 30)).drew := ((Below.refl _ _).alloc (Nat.le_refl _) _).drew
    have hC4 : w.heap.size ≤ w4.heap.size := by omega
    have ADD := Lib.hid (tadd_any w.heap.size P sb none 0 0 0 [] _ (TW4.out.later gW) 1 24 (.slice (some ⟨w4.heap.size, 0, none⟩) 24 24) (.slice none 0 0) [] (by omega) ((numSl_made w4 24 w.heap.size hC4 (by decide)).keepWN (KpN.refl _)) (bytes_none _) rfl (by omega) (by decide))
    have GW := Lib.hid gW
    have FIN := Lib.hid (show ∀ (x : Nat) (la' : Option Addr) (lc' : Nat) (w5 : World), x = 2 * usedS [] → Twn w.heap.size P sb w5 la' (0 + 1) lc' 0 ([] ++ [(usedS [], 1, 24)]) → Fr (fun q => q = P) (w4.alloc (.cells (madeCells #[.int .u64 0] 24) 30)).drew w5 → Below w.heap.size (w4.alloc (.cells (madeCells #[.int .u64 0] 24) 30)).drew w5 →
        (w5.cell? ⟨T4, 0, none⟩ = some (.pointer (some ⟨P, 0, none⟩)) ∧ w5.frozen? ⟨P, 4, none⟩ = false ∧ (w5.cell? ⟨P, 4, none⟩ = some (.int .u64 0))) ∧ ∃ x' la lc, Twn w.heap.size P sb (w5.setCell ⟨P, 4, none⟩ (.int .u64 (x : Int))) la 1 lc x' [(2, 1, 24)] ∧ x' = 4 ∧ Fr (fun q => q = P) w4 (w5.setCell ⟨P, 4, none⟩ (.int .u64 (x : Int))) ∧ Below w.heap.size w4 (w5.setCell ⟨P, 4, none⟩ (.int .u64 (x : Int))) by
      intro x la' lc' w5 hx ht hf hb
      have h4 := hf.cell ((GW.out.block T4 (by omega)).trans H44.out) (by show ¬ T4 = P; omega) (by decide)
      refine ⟨⟨(cellO h4 0).trans rfl, by unfold World.frozen?; rw [ht.blk]; rfl, (cellO ht.blk 4).trans rfl⟩, x, la', lc', ht.root x, hx, ?_, ?_⟩
      · exact ((Fr.below GW.out).trans hf).trans (Fr.set rfl)
      · exact (((GW.out.mono hC4).trans hb).setCell (p := ⟨P, 4, none⟩) (by show w.heap.size ≤ P; omega) _))
    clear gW
    go_region_held3 (fun w' => w'.cell? ⟨T4, 0, none⟩ = some (.pointer (some ⟨P, 0, none⟩)))
      (first | assumption | (go_simp; done) | (simp [*]; done))
      (first | (go_at_call 12; with_reducible (refine ADD.out.mono ?_); rintro e w5 ⟨x, la8, lc8, rfl, hx, ht8, hf8, hb8⟩; obtain ⟨⟨r0, r1, r2⟩, hk9⟩ := FIN.out x la8 lc8 w5 hx ht8 hf8 hb8; have HK9 := Lib.hid hk9; clear hk9 ht8 hf8 hb8 hx))
    all_goals (go_wp2_with fail)
    all_goals go_meet
    all_goals exact HK9.out
-->>2
  case rest =>
  as_aux_lemma =>
  obtain ⟨w5, hw5⟩ : ∃ w5, w5 = wc := ⟨_, rfl⟩
  rw [← hw5] at hcut ⊢
  clear hw5
  obtain ⟨x0, la5, lc5, ht5, hx0, hf5, hb5⟩ := hcut
  subst hx0
  have hs5 := hb5.size
  obtain ⟨cb, hcb⟩ : ∃ cb, w5.heap.size = cb := ⟨_, rfl⟩
  obtain ⟨T7, h7e⟩ : ∃ T7, cb + 1 = T7 := ⟨_, rfl⟩
  obtain ⟨w6, hw6⟩ : ∃ w6, w6 = (w5.alloc (.map #[] 0)).alloc (.cells #[.map (some cb)] 50) := ⟨_, rfl⟩
  have hg6 : Below w5.heap.size w5 w6 := by rw [hw6]; exact ((Below.refl _ _).alloc (Nat.le_refl _) _).alloc (by simp) _
  have h76 : w6.heap[T7]? = some (.cells #[.map (some cb)] 50 (0, 0)) := by
    rw [hw6, ← h7e, ← hcb]
    have := heap_alloc_new (w5.alloc (.map #[] 0)) (.cells #[.map (some w5.heap.size)] 50)
    simpa using this
  have hm6 : w6.heap[cb]? = some (.map #[] 0) := by
    rw [hw6, ← hcb, Below.heap_alloc _ _ _ (by simp)]
    exact heap_alloc_new w5 _
  have hz6 : w6.heap.size = T7 + 1 := by rw [hw6, ← h7e, ← hcb]; simp
  have o7 : w4.heap.size ≤ cb := by omega
  have o8 : cb < T7 := by omega
  have CL6 := Lib.hid (show ClsAt w.heap.size P sb cb nms 28 0 w6 [(2, 1, 24)] (fun _ => none) 0 from ⟨⟨la5, 1, lc5, ht5.later hg6⟩, by decide, (MapS.made w).block' hm6, by omega, (fun s v hv => by cases hv), (fun s hs => by simp at hs), (fun s v hv => by cases hv)⟩)
  have F46 := Lib.hid (show Fr (fun q => q = P) w4 w6 from hf5.trans (Fr.below hg6))
  have B46 := Lib.hid (show Below w.heap.size w4 w6 from hb5.trans (hg6.mono (by omega)))
  have hPT : P < w4.heap.size := hP4
  have H46 := Lib.hid (F46.out.cell H44.out (by show ¬ T4 = P; omega) (by decide))
  have H56 := Lib.hid (F46.out.cell H5.out (by show ¬ T5 = P; omega) (by decide))
  have H76 := Lib.hid h76
  have N6 := Lib.hid (show ∀ j (h : j < nn), w6.cell? ⟨nb, j, none⟩ = some (.string (nms[j]'(by rw [HN.out]; exact h))) from fun j h => by
    obtain ⟨-, ⟨hv, h0⟩ | ⟨g, cap, cur, hv, -, hg, -⟩⟩ := id HO.out
    · cases hv
    · simp only [Value.slice.injEq, Option.some.injEq, Addr.mk.injEq, and_true] at hv
      obtain ⟨rfl, -⟩ := hv
      have h1 := F46.out.cell hg (by show ¬ nb = P; omega) (by decide)
      rw [cellO h1 j, ← cellO hg j]
      exact owns_cells HO.out j _ (strV_get (by rw [HN.out]; exact h)))
  have NB6 := Lib.hid (show ∃ c, w6.heap[nb]? = some (Obj.cells c 9 (0, 0)) from by
    obtain ⟨-, ⟨hv, h0⟩ | ⟨g, cap, cur, hv, -, hg, -⟩⟩ := id HO.out
    · cases hv
    · simp only [Value.slice.injEq, Option.some.injEq, Addr.mk.injEq, and_true] at hv
      obtain ⟨rfl, -⟩ := hv
      exact ⟨_, F46.out.cell hg (by show ¬ nb = P; omega) (by decide)⟩)
  clear hg6 h76 hm6 ht5 hf5 hb5 hmk z4
  go_upto_region 9 with fail
  rw [← hw6]
  clear hw6
  have y5 := cellO H56.out 0
  simp at y5
  go_upto_block 2 with fail
  go_cut [9, 72] from 73 to 81 (fun s9 s72 wx => ∃ L fc n, ClsAt w.heap.size P sb cb nms 28 nn wx L fc n ∧ ([(2, 1, 24)] : List Sg) ⊆ L ∧ Fr (fun q => q = P ∨ q = cb) w6 wx ∧ Below w.heap.size w6 wx)
--<<3
  case first =>
    as_aux_lemma =>
    have hmk : ∀ W, (Instr.makeSlice 56 (.int .i64 5) (.int .i64 5)).run Tryz.prog W = .ok (.slice (some ⟨W.heap.size, 0, none⟩) 5 5) (W.alloc (.cells (madeCells #[.int .u64 0] 5) 30)) :=
      fun W => run_make_row' (P := Tryz.prog) 56 30 (.int .u64 0) 8 Tryz.underlying56 wordInfo rfl .i64 .i64 5 (by omega) (by omega) W
    go_wp2_with fail
    go_loopg [72] nn (fun gg s72 wr => ∃ (i : Nat) (L : List Sg) (fc : List UInt8 → Option Nat) (n : Nat), gg = nn - i ∧ i ≤ nn ∧ s72 = .int .i64 (i : Int) ∧ ClsAt w.heap.size P sb cb nms 28 i wr L fc n ∧ ([(2, 1, 24)] : List Sg) ⊆ L ∧ Fr (fun q => q = P ∨ q = cb) w6 wr ∧ Below w.heap.size w6 wr)
    case atStart => exact ⟨0, _, _, _, rfl, by omega, rfl, CL6.out, fun _ h => h, Fr.refl _ _, Below.refl _ _⟩
    case round =>
      obtain ⟨i, L, fc, n, hgi, hi, rfl, hcl, hsub, hfr, hbr⟩ := hrel
      have HGI := Lib.hid hgi; have HCL := Lib.hid hcl; have HSUB := Lib.hid hsub; have HFR := Lib.hid hfr; have HBR := Lib.hid hbr
      have hsr := hbr.size
      have h4r := hfr.cell H46.out (by show ¬ (T4 = P ∨ T4 = cb); omega) (by decide)
      have h7r := hfr.cell H76.out (by show ¬ (T7 = P ∨ T7 = cb); omega) (by decide)
      have nbr : wr.heap[nb]? = w6.heap[nb]? := by
        obtain ⟨c, hc⟩ : ∃ c, w6.heap[nb]? = some (Obj.cells c 9 (0, 0)) := NB6.out
        exact (hfr.cell hc (by show ¬ (nb = P ∨ nb = cb); omega) (by decide)).trans hc.symm
      have z4 := cellO h4r 0
      have z7 := cellO h7r 0
      simp at z4 z7
      have H4R := Lib.hid h4r; have H7R := Lib.hid h7r
      have hT4r : T4 < wr.heap.size := (Array.getElem?_eq_some_iff.1 h4r).1
      have hT7r : T7 < wr.heap.size := (Array.getElem?_eq_some_iff.1 h7r).1
      clear hgi hcl hsub hfr hbr h4r h7r
      by_cases hlt : i < nn
      · have hn := N6.out i hlt
        have hnr : wr.cell? ⟨nb, i, none⟩ = some (.string (nms[i]'(by rw [HN.out]; exact hlt))) := (World.cell?_of_block (a := ⟨nb, i, none⟩) nbr).trans hn
        obtain ⟨x0, hx0⟩ : ∃ x0, nms[i]'(by rw [HN.out]; exact hlt) = x0 := ⟨_, rfl⟩
        rw [hx0] at hnr
        have ADD := Lib.hid (cls_add w.heap.size P sb cb nms 28 i n wr L fc HCL.out (by rw [HN.out]; exact hlt) HNM.out (by omega) (by omega) (by omega) x0 hx0)
        have FIN := Lib.hid (show ∀ w5 w9, Fr (fun q => q = P) wr w5 → Fr (fun q => q = P ∨ q = cb) wr w9 → (w5.cell? ⟨T4, 0, none⟩ = some (.pointer (some ⟨P, 0, none⟩)) ∧ w5.cell? ⟨T7, 0, none⟩ = some (.map (some cb))) ∧ (w9.cell? ⟨T4, 0, none⟩ = some (.pointer (some ⟨P, 0, none⟩)) ∧ w9.cell? ⟨T7, 0, none⟩ = some (.map (some cb))) from fun w5 w9 h5 h9 =>
          ⟨⟨(cellO (h5.cell H4R.out (by show ¬ T4 = P; omega) (by decide)) 0).trans rfl, (cellO (h5.cell H7R.out (by show ¬ T7 = P; omega) (by decide)) 0).trans rfl⟩,
           ⟨(cellO (h9.cell H4R.out (by show ¬ (T4 = P ∨ T4 = cb); omega) (by decide)) 0).trans rfl, (cellO (h9.cell H7R.out (by show ¬ (T7 = P ∨ T7 = cb); omega) (by decide)) 0).trans rfl⟩⟩)
        clear hn nbr hx0
        go_upto_region 12 with fail
        go_region_held3 (fun w' => w'.cell? ⟨T4, 0, none⟩ = some (.pointer (some ⟨P, 0, none⟩)) ∧ w'.cell? ⟨T7, 0, none⟩ = some (.map (some cb)))
          (first | (constructor <;> first | assumption | (go_simp; done) | (simp [*]; done)))
          (first | (go_at_call 12; with_reducible (refine ADD.out.mono ?_); rintro e w5 ⟨x, rfl, hf5, w9, hrun9, hk9, hf9, hb9⟩; obtain ⟨⟨p4, p7⟩, q4, q7⟩ := FIN.out w5 w9 hf5 hf9; have HK9 := Lib.hid hk9; have HF9 := Lib.hid hf9; have HB9 := Lib.hid hb9; clear hk9 hf9 hb9 hf5))
        all_goals (go_wp2_with fail)
        go_roundg (nn - (i + 1))
        case measure => rw [HGI.out]; omega
        case rel =>
          obtain ⟨L', fc', n', hc9, hs9⟩ := HK9.out
          exact ⟨i + 1, L', fc', n', rfl, by omega, by go_num, hc9, (fun s hs => hs9 (HSUB.out hs)), HFR.out.trans HF9.out, HBR.out.trans HB9.out⟩
      · obtain rfl : i = nn := by omega
        have HEND := Lib.hid (show ∃ L fc n, ClsAt w.heap.size P sb cb nms 28 i wr L fc n ∧ ([(2, 1, 24)] : List Sg) ⊆ L ∧ Fr (fun q => q = P ∨ q = cb) w6 wr ∧ Below w.heap.size w6 wr from ⟨L, fc, n, HCL.out, HSUB.out, HFR.out, HBR.out⟩)
        go_wp2_with fail
        go_meet
        exact HEND.out
-->>3
  case rest =>
  as_aux_lemma =>
  obtain ⟨w7, hw7⟩ : ∃ w7, w7 = wc := ⟨_, rfl⟩
  rw [← hw7] at hcut ⊢
  clear hw7
  obtain ⟨Lc, fc, ncl, hcl7, hsub7, hf7, hb7⟩ := hcut
  have hs6 : w4.heap.size ≤ w6.heap.size := B46.out.size
  have hs7 := hb7.size
  obtain ⟨mb, hmb⟩ : ∃ mb, w7.heap.size = mb := ⟨_, rfl⟩
  obtain ⟨w8, hw8⟩ : ∃ w8, w8 = w7.alloc (.map #[] 0) := ⟨_, rfl⟩
  have hg8 : Below w7.heap.size w7 w8 := by rw [hw8]; exact (Below.refl _ _).alloc (Nat.le_refl _) _
  have hm8 : w8.heap[mb]? = some (.map #[] 0) := by rw [hw8, ← hmb]; exact heap_alloc_new w7 _
  have hz8 : w8.heap.size = mb + 1 := by rw [hw8, ← hmb]; simp
  have o9 : T7 < mb := by omega
  have o10 : mb < w8.heap.size := by omega
  obtain ⟨la7, ln7, lc7, ht7⟩ := hcl7.twn
  have CC8 := Lib.hid (show MapS 30 w8 cb fc ncl ∧ ncl ≤ nn ∧ (∀ s v, fc s = some v → IsK Lc 0 5 v) ∧ (∀ s ∈ nms, (fc s.data.toList).isSome = true) ∧ (∀ s v, fc s = some v → 0 < s.length % 8 ∧ s.length ≤ 24) from ⟨hcl7.map.later hg8, hcl7.hn, hcl7.val, (by have := hcl7.key; rw [List.take_of_length_le (by rw [HN.out]; exact Nat.le_refl _)] at this; exact this), hcl7.sz⟩)
  have CL8 := Lib.hid (show ClsAt w.heap.size P sb mb nms (28 + 7 * nn) 0 w8 Lc (fun _ => none) 0 from ⟨⟨la7, ln7, lc7, ht7.later hg8⟩, by have := hcl7.us; omega, (MapS.made w).block' hm8, by omega, (fun s v hv => by cases hv), (fun s hs => by simp at hs), (fun s v hv => by cases hv)⟩)
  have SUB8 := Lib.hid hsub7
  have F68 := Lib.hid (show Fr (fun q => q = P ∨ q = cb) w6 w8 from hf7.trans (Fr.below hg8))
  have B68 := Lib.hid (show Below w.heap.size w6 w8 from hb7.trans (hg8.mono (by omega)))
  have H48 := Lib.hid (F68.out.cell H46.out (by show ¬ (T4 = P ∨ T4 = cb); omega) (by decide))
  have H58 := Lib.hid (F68.out.cell H56.out (by show ¬ (T5 = P ∨ T5 = cb); omega) (by decide))
  have H78 := Lib.hid (F68.out.cell H76.out (by show ¬ (T7 = P ∨ T7 = cb); omega) (by decide))
  have NB8 := Lib.hid (show ∃ c, w8.heap[nb]? = some (Obj.cells c 9 (0, 0)) ∧ ∀ j (h : j < nn), c[j]? = some (.string (nms[j]'(by rw [HN.out]; exact h))) from by
    obtain ⟨c, hc⟩ := NB6.out
    exact ⟨c, F68.out.cell hc (by show ¬ (nb = P ∨ nb = cb); omega) (by decide), fun j h => by rw [← cellO hc j]; exact N6.out j h⟩)
  clear hg8 hm8 hcl7 hsub7 hf7 hb7 ht7 y5 hz6
  go_upto_region 15 with fail
  rw [← hw8]
  clear hw8
  have y5 := cellO H58.out 0
  simp at y5
  go_upto_block 4 with fail
  go_cut [12, 85] from 86 to 94 (fun s12 s85 wx => ∃ L fm n, ClsAt w.heap.size P sb mb nms (28 + 7 * nn) nn wx L fm n ∧ Lc ⊆ L ∧ Fr (fun q => q = P ∨ q = mb) w8 wx ∧ Below w.heap.size w8 wx)
--<<4
  case first =>
    as_aux_lemma =>
    have hmk : ∀ W, (Instr.makeSlice 56 (.int .i64 5) (.int .i64 5)).run Tryz.prog W = .ok (.slice (some ⟨W.heap.size, 0, none⟩) 5 5) (W.alloc (.cells (madeCells #[.int .u64 0] 5) 30)) :=
      fun W => run_make_row' (P := Tryz.prog) 56 30 (.int .u64 0) 8 Tryz.underlying56 wordInfo rfl .i64 .i64 5 (by omega) (by omega) W
    go_wp2_with fail
    go_loopg [85] nn (fun gg s85 wr => ∃ (i : Nat) (L : List Sg) (fm : List UInt8 → Option Nat) (n : Nat), gg = nn - i ∧ i ≤ nn ∧ s85 = .int .i64 (i : Int) ∧ ClsAt w.heap.size P sb mb nms (28 + 7 * nn) i wr L fm n ∧ Lc ⊆ L ∧ Fr (fun q => q = P ∨ q = mb) w8 wr ∧ Below w.heap.size w8 wr)
    case atStart => exact ⟨0, _, _, _, rfl, by omega, rfl, CL8.out, fun _ h => h, Fr.refl _ _, Below.refl _ _⟩
    case round =>
      obtain ⟨i, L, fm, n, hgi, hi, rfl, hcl, hsub, hfr, hbr⟩ := hrel
      have HGI := Lib.hid hgi; have HCL := Lib.hid hcl; have HSUB := Lib.hid hsub; have HFR := Lib.hid hfr; have HBR := Lib.hid hbr
      have hsr := hbr.size
      have h4r := hfr.cell H48.out (by show ¬ (T4 = P ∨ T4 = mb); omega) (by decide)
      have z4 := cellO h4r 0
      simp at z4
      have H4R := Lib.hid h4r
      have hT4r : T4 < wr.heap.size := (Array.getElem?_eq_some_iff.1 h4r).1
      clear hgi hcl hsub hfr hbr h4r
      by_cases hlt : i < nn
      · obtain ⟨c8, hc8, hcc8⟩ := NB8.out
        have hnr : wr.cell? ⟨nb, i, none⟩ = some (.string (nms[i]'(by rw [HN.out]; exact hlt))) := (cellO (HFR.out.cell hc8 (by show ¬ (nb = P ∨ nb = mb); omega) (by decide)) i).trans (hcc8 i hlt)
        obtain ⟨x0, hx0⟩ : ∃ x0, nms[i]'(by rw [HN.out]; exact hlt) = x0 := ⟨_, rfl⟩
        rw [hx0] at hnr
        have ADD := Lib.hid (cls_add w.heap.size P sb mb nms (28 + 7 * nn) i n wr L fm HCL.out (by rw [HN.out]; exact hlt) HNM.out (by omega) (by omega) (by omega) x0 hx0)
        have FIN := Lib.hid (show ∀ w5 w9, Fr (fun q => q = P) wr w5 → Fr (fun q => q = P ∨ q = mb) wr w9 → w5.cell? ⟨T4, 0, none⟩ = some (.pointer (some ⟨P, 0, none⟩)) ∧ w9.cell? ⟨T4, 0, none⟩ = some (.pointer (some ⟨P, 0, none⟩)) from fun w5 w9 h5 h9 =>
          ⟨(cellO (h5.cell H4R.out (by show ¬ T4 = P; omega) (by decide)) 0).trans rfl, (cellO (h9.cell H4R.out (by show ¬ (T4 = P ∨ T4 = mb); omega) (by decide)) 0).trans rfl⟩)
        clear hc8 hcc8 hx0
        go_upto_region 18 with fail
        go_region_held3 (fun w' => w'.cell? ⟨T4, 0, none⟩ = some (.pointer (some ⟨P, 0, none⟩)))
          (first | assumption | (go_simp; done) | (simp [*]; done))
          (first | (go_at_call 12; with_reducible (refine ADD.out.mono ?_); rintro e w5 ⟨x, rfl, hf5, w9, hrun9, hk9, hf9, hb9⟩; obtain ⟨p4, q4⟩ := FIN.out w5 w9 hf5 hf9; have HK9 := Lib.hid hk9; have HF9 := Lib.hid hf9; have HB9 := Lib.hid hb9; clear hk9 hf9 hb9 hf5))
        all_goals (go_wp2_with fail)
        go_roundg (nn - (i + 1))
        case measure => rw [HGI.out]; omega
        case rel =>
          obtain ⟨L', fc', n', hc9, hs9⟩ := HK9.out
          exact ⟨i + 1, L', fc', n', rfl, by omega, by go_num, hc9, (fun s hs => hs9 (HSUB.out hs)), HFR.out.trans HF9.out, HBR.out.trans HB9.out⟩
      · obtain rfl : i = nn := by omega
        have HEND := Lib.hid (show ∃ L fm n, ClsAt w.heap.size P sb mb nms (28 + 7 * i) i wr L fm n ∧ Lc ⊆ L ∧ Fr (fun q => q = P ∨ q = mb) w8 wr ∧ Below w.heap.size w8 wr from ⟨L, fm, n, HCL.out, HSUB.out, HFR.out, HBR.out⟩)
        go_wp2_with fail
        go_meet
        exact HEND.out
-->>4
  case rest =>
  as_aux_lemma =>
  obtain ⟨w9, hw9⟩ : ∃ w9, w9 = wc := ⟨_, rfl⟩
  rw [← hw9] at hcut ⊢
  clear hw9
  obtain ⟨Lm, fm, nmt, hcl9, hsub9, hf9, hb9⟩ := hcut
  obtain ⟨la9, ln9, lc9, ht9⟩ := hcl9.twn
  have hus9 := hcl9.us
  have hs8 : w6.heap.size ≤ w8.heap.size := B68.out.size
  have hs9 := hb9.size
  have CM9 := Lib.hid (show MapS 30 w9 mb fm nmt ∧ nmt ≤ nn ∧ (∀ s v, fm s = some v → IsK Lm 0 5 v) ∧ (∀ s ∈ nms, (fm s.data.toList).isSome = true) from ⟨hcl9.map, hcl9.hn, hcl9.val, by have := hcl9.key; rw [List.take_of_length_le (by rw [HN.out]; exact Nat.le_refl _)] at this; exact this⟩)
  have TW9 := Lib.hid ht9; have SUB9 := Lib.hid hsub9; have F9 := Lib.hid hf9; have B9 := Lib.hid hb9
  have H49 := Lib.hid (hf9.cell H48.out (by show ¬ (T4 = P ∨ T4 = mb); omega) (by decide))
  have z4 := cellO H49.out 0
  simp at z4
  have hP9 : P < w9.heap.size := ht9.lt
  have hT49 : T4 < w9.heap.size := (Array.getElem?_eq_some_iff.1 H49.out).1
  clear hcl9 hsub9 hf9 hb9 ht9 y5 hz8
  go_upto_region 21 with fail
  go_cut [14] from 96 to 102 (fun s14 wx => ∃ x0 x1 x2 la ln lc L' Nb, s14 = .slice (some ⟨Nb, 0, none⟩) 3 3 ∧ Twn w.heap.size P sb wx la ln lc 4 L' ∧ Lm ⊆ L' ∧ usedS L' ≤ 28 + 7 * nn + 7 * nn + 6 ∧ (IsK L' 0 0 x0 ∧ IsK L' 0 0 x1 ∧ IsK L' 0 0 x2) ∧ wx.heap[Nb]? = some (.cells #[.int .u64 (x0 : Int), .int .u64 (x1 : Int), .int .u64 (x2 : Int)] 30 (0, 0)) ∧ w9.heap.size ≤ Nb ∧ Fr (fun q => q = P) w9 wx ∧ Below w.heap.size w9 wx)
--<<5
  case first =>
    as_aux_lemma =>
    have ST := Lib.hid (show ∀ W, Fr (fun q => q = P) w9 W → W.cell? ⟨T4, 0, none⟩ = some (.pointer (some ⟨P, 0, none⟩)) from fun W hf => (cellO (hf.cell H49.out (by show ¬ T4 = P; omega) (by decide)) 0).trans rfl)
    have NX := Lib.hid (show ∀ W la ln lc L, Twn w.heap.size P sb W la ln lc 4 L → usedS L + 2 ≤ 3000 → Calls Tryz.prog 12 #[.pointer (some ⟨P, 0, none⟩), .int .i64 0, .slice none 0 0, .slice none 0 0] W fun e W' => ∃ (x : Nat) (la' : Option Addr) (lc' : Nat), e = .returned (.int .u64 (x : Int)) ∧ Twn w.heap.size P sb W' la' (ln + 1) lc' 4 (L ++ [(usedS L, 0, 0)]) ∧ IsK (L ++ [(usedS L, 0, 0)]) 0 0 x ∧ usedS (L ++ [(usedS L, 0, 0)]) ≤ usedS L + 2 ∧ Fr (fun q => q = P) W W' ∧ Below w.heap.size W W' from fun W la ln lc L ht hu =>
      (tadd_any w.heap.size P sb la ln lc 4 L W ht 0 0 (.slice none 0 0) (.slice none 0 0) [] (by omega) (numSl_none _ _ _ _ _) (bytes_none _) rfl (by omega) (by have : cellsS (0, 0, 0) = 0 := rfl; omega)).mono fun e W' ⟨x, la', lc', h1, h2, h3, h4, h5⟩ =>
        ⟨x, la', lc', h1, h3, ⟨usedS L, List.mem_append_right _ (List.mem_singleton.2 rfl), h2⟩, by rw [usedS_snoc]; have : cellsS (usedS L, 0, 0) = 0 := rfl; omega, h4, h5⟩)
    have A1 := Lib.hid (NX.out w9.drew la9 ln9 lc9 Lm (TW9.out.later (Below.refl _ _).drew) (by omega))
    go_region_held3 (fun w' => w'.cell? ⟨T4, 0, none⟩ = some (.pointer (some ⟨P, 0, none⟩)))
      (first | assumption | (go_simp; done) | (simp [*]; done))
      (first
        | (go_at_call 12; with_reducible (refine A1.out.mono ?_); rintro e w10 ⟨x0, la1, lc1, rfl, ht10, hk10, hu10, hf10, hb10⟩; have A2 := Lib.hid (NX.out w10 _ _ _ _ ht10 (by omega)); have HF10 := Lib.hid ((Fr.below (Below.refl _ _).drew).trans hf10); have HB10 := Lib.hid ((Below.refl w.heap.size w9).drew.trans hb10); have p4 := ST.out w10 HF10.out; have HK10 := Lib.hid hk10; clear ht10 hk10 hf10 hb10)
        | (go_at_call 12; with_reducible (refine A2.out.mono ?_); rintro e w11 ⟨x1, la2, lc2, rfl, ht11, hk11, hu11, hf11, hb11⟩; have A3 := Lib.hid (NX.out w11 _ _ _ _ ht11 (by omega)); have HF11 := Lib.hid (HF10.out.trans hf11); have HB11 := Lib.hid (HB10.out.trans hb11); have q4 := ST.out w11 HF11.out; have HK11 := Lib.hid hk11; clear ht11 hk11 hf11 hb11)
        | (go_at_call 12; with_reducible (refine A3.out.mono ?_); rintro e w12 ⟨x2, la3, lc3, rfl, ht12, hk12, hu12, hf12, hb12⟩; have HF12 := Lib.hid (HF11.out.trans hf12); have HB12 := Lib.hid (HB11.out.trans hb12); have HT12 := Lib.hid ht12; have r4 := ST.out w12 HF12.out; have hl12 : T4 < w12.heap.size := (by have := HB12.out.size; omega); have HK12 := Lib.hid hk12; clear ht12 hk12 hf12 hb12))
    all_goals (go_wp2_with fail)
    all_goals go_meet
    have hs12 := HB12.out.size
    have ga : Below w12.heap.size w12 (w12.alloc (.cells #[.int .u64 (x0 : Int), .int .u64 (x1 : Int), .int .u64 (x2 : Int)] 30)) := (Below.refl _ _).alloc (Nat.le_refl _) _
    exact ⟨x0, x1, x2, la3, _, lc3, _, w12.heap.size, rfl, HT12.out.later ga, (fun s hs => sub_snoc _ _ (sub_snoc _ _ (sub_snoc _ _ hs))), by omega, ⟨(HK10.out.mono (sub_snoc _ _)).mono (sub_snoc _ _), HK11.out.mono (sub_snoc _ _), HK12.out⟩, heap_alloc_new w12 _, hs12, HF12.out.trans (Fr.below ga), HB12.out.trans (ga.mono (by omega))⟩
-->>5
  case rest =>
  as_aux_lemma =>
  obtain ⟨w10, hw10⟩ : ∃ w10, w10 = wc := ⟨_, rfl⟩
  rw [← hw10] at hcut ⊢
  clear hw10
  obtain ⟨n0, n1', n2', la10, ln10, lc10, L10, Nb, rfl, ht10, hsub10, hus10, hk10, hN10, hNb, hf10, hb10⟩ := hcut
  have hs10 := hb10.size
  have HT10 := Lib.hid ht10
  obtain ⟨T15, h15⟩ : ∃ T15, w10.heap.size = T15 := ⟨_, rfl⟩
  obtain ⟨fb, hfb⟩ : ∃ fb, T15 + 1 = fb := ⟨_, rfl⟩
  obtain ⟨w11, hw11⟩ : ∃ w11, w11 = w10.alloc (.cells #[.slice none 0 0] 56) := ⟨_, rfl⟩
  have m0 := MapW.made w11
  obtain ⟨w12, r1, m1, g1⟩ := m0.store (s := ⟨#[67, 108, 97, 115, 115]⟩) (y := 20) (by decide) (by omega) (by omega)
  obtain ⟨w13, r2, m2, g2⟩ := m1.store (s := ⟨#[77, 101, 116, 97, 99, 108, 97, 115, 115]⟩) (y := 20) (by decide) (by omega) (by omega)
  obtain ⟨w14, r3, m3, g3⟩ := m2.store (s := ⟨#[83, 116, 114, 105, 110, 103]⟩) (y := 2) (by decide) (by omega) (by omega)
  obtain ⟨w15, r4, m4, g4⟩ := m3.store (s := ⟨#[83, 121, 109, 98, 111, 108]⟩) (y := 2) (by decide) (by omega) (by omega)
  obtain ⟨w16, r5, m5, g5⟩ := m4.store (s := ⟨#[65, 114, 114, 97, 121]⟩) (y := 1) (by decide) (by omega) (by omega)
  obtain ⟨w17, r6, m6, g6⟩ := m5.store (s := ⟨#[67, 111, 110, 116, 101, 120, 116]⟩) (y := 1) (by decide) (by omega) (by omega)
  have hz11 : w11.heap.size = fb := by rw [hw11, ← hfb, ← h15]; simp
  have G17 := Lib.hid (show Below w10.heap.size w10 w17 from by
    have b0 : Below w10.heap.size w10 w11 := by rw [hw11]; exact (Below.refl _ _).alloc (Nat.le_refl _) _
    have c0 : Below w11.heap.size w11 (w11.alloc (.map #[] 0)) := (Below.refl _ _).alloc (Nat.le_refl _) _
    have own : ∀ q, some w11.heap.size = some q → w11.heap.size ≤ q := fun q hq => by simp at hq; omega
    have c1 := c0.grown g1 c0.size own
    have c2 := c1.grown g2 c1.size own
    have c3 := c2.grown g3 c2.size own
    have c4 := c3.grown g4 c3.size own
    have c5 := c4.grown g5 c4.size own
    have c6 := c5.grown g6 c5.size own
    exact b0.trans (c6.mono b0.size))
  have h15w : w17.heap[T15]? = some (.cells #[.slice none 0 0] 56 (0, 0)) := by
    have c0 : Below w11.heap.size w11 (w11.alloc (.map #[] 0)) := (Below.refl _ _).alloc (Nat.le_refl _) _
    have own : ∀ q, some w11.heap.size = some q → w11.heap.size ≤ q := fun q hq => by simp at hq; omega
    have c1 := c0.grown g1 c0.size own
    have c2 := c1.grown g2 c1.size own
    have c3 := c2.grown g3 c2.size own
    have c4 := c3.grown g4 c3.size own
    have c5 := c4.grown g5 c4.size own
    have c6 := c5.grown g6 c5.size own
    refine (c6.block T15 (by omega)).trans ?_
    rw [hw11, ← h15]
    exact heap_alloc_new w10 _
  rw [hz11] at m6
  have M17 := Lib.hid m6
  have hz17 : fb < w17.heap.size := m6.lt
  rw [hz11] at r1 r2 r3 r4 r5 r6
  rw [hw11] at r1
  have HZ11 := Lib.hid hz11
  clear m0 m1 m2 m3 m4 m5 m6 g1 g2 g3 g4 g5 g6 hz11 hw11
  go_upto_region 25 with fail
  clear r1 r2 r3 r4 r5 r6 z4
  have F917 := Lib.hid (show Fr (fun q => q = P) w9 w17 from hf10.trans (Fr.below G17.out))
  have hNl : Nb < w10.heap.size := (Array.getElem?_eq_some_iff.1 hN10).1
  have hd12 : w10.heap.size ≤ w17.heap.size := G17.out.size
  obtain ⟨d, hd⟩ : ∃ d : LD, d = ⟨w.heap.size, P, sb, T4, T5, nb, nc, T7, cb, mb, w.heap.size, Nb, T15, fb, w17.heap.size, 4, nms, fc, fm, ncl, nmt, n0, n1', n2', #[.slice s1 n1 c1, .slice s2 n2 c2], L10⟩ := ⟨_, rfl⟩
  have GOOD := Lib.hid (show Good d from by
    obtain ⟨-, k2, k3, k4, k5⟩ := CC8.out
    obtain ⟨-, l2, l3, l4⟩ := CM9.out
    have hnl := HN.out
    rw [hd]
    refine ⟨?_, ?_, ?_, ?_, ?_, ?_, ?_, ?_, ?_, ?_, ?_, ?_, ?_, ?_, HNM.out, ?_, ?_, k5, ?_, ?_, ?_, ?_, hk10, ?_⟩
    · refine ⟨?_, ?_, ?_, ?_, ?_⟩ <;> dsimp only <;> omega
    · refine ⟨?_, ?_, ?_, ?_, ?_⟩ <;> dsimp only <;> omega
    · refine ⟨?_, ?_, ?_, ?_, ?_⟩ <;> dsimp only <;> omega
    · refine ⟨?_, ?_, ?_, ?_, ?_⟩ <;> dsimp only <;> omega
    · refine ⟨?_, ?_, ?_, ?_, ?_⟩ <;> dsimp only <;> omega
    · refine ⟨?_, ?_, ?_, ?_, ?_⟩ <;> dsimp only <;> omega
    · refine ⟨?_, ?_, ?_, ?_, ?_⟩ <;> dsimp only <;> omega
    · refine ⟨?_, ?_, ?_, ?_, ?_⟩ <;> dsimp only <;> omega
    · refine ⟨?_, ?_, ?_⟩ <;> dsimp only <;> omega
    · refine ⟨?_, ?_⟩ <;> dsimp only <;> omega
    · refine ⟨?_, ?_, ?_⟩ <;> dsimp only <;> omega
    · refine ⟨?_, ?_⟩ <;> dsimp only <;> omega
    · dsimp only; omega
    · dsimp only; omega
    · exact fun s v hv => ((k3 s v hv).mono SUB9.out).mono hsub10
    · exact fun s v hv => (l3 s v hv).mono hsub10
    · exact k4
    · exact l4
    · dsimp only; omega
    · dsimp only; omega
    · exact ⟨2, hsub10 (SUB9.out (SUB8.out (List.mem_singleton.2 rfl))), rfl⟩)
  have STA := Lib.hid (show Sta d w17 from by
    obtain ⟨k1, -⟩ := CC8.out
    obtain ⟨l1, -⟩ := CM9.out
    obtain ⟨c8, r1, r2⟩ := NB8.out
    obtain ⟨e1, q1, m1⟩ := k1.mapBlk
    obtain ⟨e2, q2, m2⟩ := l1.mapBlk
    have hx4 := (G4.out.block w.heap.size (by omega)).trans HX1.out
    have hnl := HN.out
    rw [hd]
    refine ⟨F917.out.cell H49.out (by show ¬ T4 = P; omega) (by decide), ?_, ⟨c8, ?_, fun j h => r2 j (by dsimp only at h; omega)⟩, ?_, k1.block ?_, l1.block ?_, ?_, ?_⟩
    · have := F917.out.cell (F9.out.cell H58.out (by show ¬ (T5 = P ∨ T5 = mb); omega) (by decide)) (by show ¬ T5 = P; omega) (by decide)
      rw [← hnl] at this
      exact this
    · exact F917.out.cell (F9.out.cell r1 (by show ¬ (nb = P ∨ nb = mb); omega) (by decide)) (by show ¬ nb = P; omega) (by decide)
    · exact F917.out.cell (F9.out.cell H78.out (by show ¬ (T7 = P ∨ T7 = mb); omega) (by decide)) (by show ¬ T7 = P; omega) (by decide)
    · exact (F917.out.map (F9.out.map m1 (by show ¬ (cb = P ∨ cb = mb); omega)) (by show ¬ cb = P; omega)).trans m1.symm
    · exact (F917.out.map m2 (by show ¬ mb = P; omega)).trans m2.symm
    · exact F917.out.cell (F9.out.cell (F68.out.cell (F46.out.cell hx4 (by show ¬ w.heap.size = P; omega) (by decide)) (by show ¬ (w.heap.size = P ∨ w.heap.size = cb); omega) (by decide)) (by show ¬ (w.heap.size = P ∨ w.heap.size = mb); omega) (by decide)) (by show ¬ w.heap.size = P; omega) (by decide)
    · exact (G17.out.block Nb hNl).trans hN10)
  have DYN := Lib.hid (show Dyn d w17 (34 + 14 * nn) 0 L10 from by
    obtain ⟨e1, q1, m1⟩ := MS4.out.mapBlk
    rw [hd]
    refine ⟨⟨la10, ln10, lc10, _, 0, HT10.out.later G17.out, MS4.out.block ?_, (fun s v hv => by cases hv), Nat.le_refl _⟩, by omega, fun _ h => h⟩
    exact (F917.out.map (F9.out.map (F68.out.map (F46.out.map m1 (by show ¬ sb = P; omega)) (by show ¬ (sb = P ∨ sb = cb); omega)) (by show ¬ (sb = P ∨ sb = mb); omega)) (by show ¬ sb = P; omega)).trans m1.symm)
  have LST := Lib.hid (show Lst d w17 L10 0 from by
    rw [hd]
    exact ⟨⟨_, [], h15w, World.ownsRow_nil _ _ _ _, (fun x hx => by cases hx), (fun x hx => by cases hx)⟩⟩)
  have B17 := Lib.hid (show Below w.heap.size w w17 from (((B4.out.trans B46.out).trans B68.out).trans B9.out).trans (hb10.trans (G17.out.mono (by omega))))
  have R17 := Lib.hid (show w17.heap[w.heap.size + 1]? = some (.cells #[.int .i64 0, .slice none 0 0, .int .u32 0] 29 (0, 0)) from by
    have hx4 := (G4.out.block (w.heap.size + 1) (by omega)).trans HR1.out
    exact F917.out.cell (F9.out.cell (F68.out.cell (F46.out.cell hx4 (by show ¬ w.heap.size + 1 = P; omega) (by decide)) (by show ¬ (w.heap.size + 1 = P ∨ w.heap.size + 1 = cb); omega) (by decide)) (by show ¬ (w.heap.size + 1 = P ∨ w.heap.size + 1 = mb); omega) (by decide)) (by show ¬ w.heap.size + 1 = P; omega) (by decide))
  have EQ := Lib.hid (show w.heap.size = d.C ∧ w.heap.size = d.bX ∧ w17.heap.size = d.E ∧ d.xv = #[.slice s1 n1 c1, .slice s2 n2 c2] ∧ d.nm.length = nn ∧ d.root = 4 from by rw [hd]; exact ⟨rfl, rfl, rfl, rfl, HN.out, rfl⟩)
  have hRd : d.st (w.heap.size + 1) := by
    rw [hd]
    refine ⟨?_, ?_, ?_, ?_, ?_⟩ <;> dsimp only <;> omega
  have HRD := Lib.hid hRd
  have eP : P = d.P := by rw [hd]
  have e4 : T4 = d.T4 := by rw [hd]
  have e5 : T5 = d.T5 := by rw [hd]
  have e7 : T7 = d.T7 := by rw [hd]
  have em : mb = d.mb := by rw [hd]
  have eN : Nb = d.Nb := by rw [hd]
  have e15 : T15 = d.T15 := by rw [hd]
  have ef : fb = d.fb := by rw [hd]
  have es : sb = d.sb := by rw [hd]
  clear hd hk10 hN10 hf10 hb10 ht10 hsub10 hus10 h15w hNb HT10 F917 F9 F68 F46 B9 B68 B46 B4 G17 G4 CC8 CM9 NB8 NB6 N6 H49 H48 H58 H78 H46 H56 H76 H44 H5 HO HNM CL6 CL8 TW9 TW4 MS4 SUB8 SUB9 HX1 HR1 H41 hRd
  subst eP e4 e5 e7 em eN e15 ef es
  have hnn2 := hnn1
  have hE17 := EQ.out.2.2.1
  have RN := Lib.hid (show Rnd d w17 w17 (34 + 14 * nn) 0 0 6 L10 from ⟨STA.out, DYN.out, LST.out, ⟨6, M17.out, Nat.le_refl _⟩, Fr.refl _ _, Below.refl _ _⟩)
  have HE := Lib.hid hE17
  have hR1 : w.heap.size + 1 < w17.heap.size := by have := HRD.out.1; omega
  clear hE17 STA DYN LST M17 HZ11 hus9 hs10 hs9 hs8 hs7 hs6 hs5 hs4 o1 o2 o3 o4 o5 o6 o7 o8 o9 o10 hPT hP9 hP4 hT4w hT49 hNl hd12 hz17 hnb hnbl hcb hmb h15 hfb h7e hnn1 hT4
  have hN17 := EQ.out.2.2.2.2.1
  have y5 := cellO RN.out.sta.t5 0
  rw [hN17] at y5
  simp at y5
  clear hN17
  go_upto_block 6 with fail
  go_cut [18, 19, 20, 21, 22, 23, 24, 108] from 109 to 256 (fun s18 s19 s20 s21 s22 s23 s24 s108 wx => ∃ L, Rnd d w17 wx (34 + 14 * nn + 13 * nn) nn (4 * nn) (6 + 2 * nn) L)
--<<6
  case first =>
    as_aux_lemma =>
    go_wp2_with fail
    go_loopg [108] nn (fun gg s108 wr => ∃ (i : Nat) (L : List Sg), gg = nn - i ∧ i ≤ nn ∧ s108 = .int .i64 (i : Int) ∧ Rnd d w17 wr (34 + 14 * nn + 13 * i) i (4 * i) (6 + 2 * i) L)
    case atStart => exact ⟨0, _, rfl, by omega, rfl, RN.out⟩
    case round =>
      obtain ⟨i, L, hgi, hi, rfl, hr⟩ := hrel
      have HGI := Lib.hid hgi; have HR := Lib.hid hr
      clear hgi hr
      by_cases hlt : i < nn
      · have hN17 := EQ.out.2.2.2.2.1
        have hin : i < d.nm.length := by omega
        obtain ⟨s0, hs0⟩ : ∃ s0, d.nm[i] = s0 := ⟨_, rfl⟩
        have hmem : s0 ∈ d.nm := by rw [← hs0]; exact List.getElem_mem hin
        have NM := Lib.hid (GOOD.out.names s0 hmem)
        have hsz0 : s0.size ≤ maxLen := by have := NM.out.2; unfold maxLen; omega
        obtain ⟨vc, hvc⟩ := Option.isSome_iff_exists.1 (GOOD.out.hcl s0 hmem)
        obtain ⟨vm, hvm⟩ := Option.isSome_iff_exists.1 (GOOD.out.hmt s0 hmem)
        have KC := Lib.hid (GOOD.out.cls _ _ hvc); have KM := Lib.hid (GOOD.out.mts _ _ hvm); have VC := Lib.hid hvc; have VM := Lib.hid hvm
        have hnr : wr.cell? ⟨d.nb, i, none⟩ = some (.string s0) := by
          obtain ⟨cur, r1, r2⟩ := HR.out.sta.row
          rw [← hs0]
          exact (cellO r1 i).trans (r2 i hin)
        have hn0 := cellO HR.out.sta.nils 0
        simp at hn0
        have ROOT6 := Lib.hid (fun W (hW : Below wr.heap.size wr W) => droot_is d W GOOD.out (HR.out.sta.later GOOD.out hW) 6 1 (by omega) (by omega))
        have hNbl := lt_of_cell hn0
        clear hs0 hvc hvm hN17 hin hmem y5
        go_upto_region 28 with fail
        (refine wp_region_later (by kernel_rfl) (by kernel_rfl) ?_; (repeat (go_big_quiet_step (((go_at_call 13; with_reducible exact calls_later_if ROOT6.out))))); refine wpQuiet_nil ?_; intro w2 hw4; have hg := later_elim hw4; clear hw4)
        have HR2 := Lib.hid (HR.out.later GOOD.out hg)
        have K6 := Lib.hid (HR.out.dyn.word ((rootV_k GOOD.out (k := 1) (by have := EQ.out.2.2.2.2.1; omega)).p.mono HR.out.dyn.sub)).2.2
        have K0 := Lib.hid (HR.out.dyn.word (GOOD.out.nils.1.p.mono HR.out.dyn.sub)).2.2
        clear hg hn0 hnr ROOT6 hNbl HR
        obtain ⟨r6, hr6⟩ : ∃ r6, rootV d 1 = r6 := ⟨_, rfl⟩
        rw [hr6] at K6 ⊢
        clear hr6
        obtain ⟨r0, hr0⟩ : ∃ r0, d.n0 = r0 := ⟨_, rfl⟩
        rw [hr0] at K0 ⊢
        clear hr0
        go_upto_if 119 with fail
        go_cut [20, 21, 22] from 109 to 256 (fun s20 s21 s22 wx => ∃ a b : Nat, s20 = .int .u64 (a : Int) ∧ s21 = .int .u64 (b : Int) ∧ a < 18446744073709551616 ∧ b < 18446744073709551616 ∧ Rnd d w17 wx (34 + 14 * nn + 13 * i) i (4 * i) (6 + 2 * i + 1 + 1) L)
--<<7
        case first =>
          as_aux_lemma =>
          by_cases hi0 : i = 0
          · subst hi0
            go_wp2_with fail
            go_meet
            exact ⟨r0, r6, rfl, rfl, K0.out, K6.out, HR2.out.weak (by omega)⟩
          · have hiI : (0 : Int) < (i : Int) := by omega
            have hN17 := EQ.out.2.2.2.2.1
            have y5 := cellO HR2.out.sta.t5 0
            rw [hN17] at y5
            simp at y5
            obtain ⟨u0, hu0⟩ : ∃ u0, d.nm[0]'(by omega) = u0 := ⟨_, rfl⟩
            have hu0s : u0.size ≤ 24 := by rw [← hu0]; exact (GOOD.out.names _ (List.getElem_mem _)).2
            have hn0 : w2.cell? ⟨d.nb, 0, none⟩ = some (.string u0) := by
              obtain ⟨cur, r1, r2⟩ := HR2.out.sta.row
              rw [← hu0]
              exact (cellO r1 0).trans (r2 0 (by omega))
            clear hN17 hu0
            go_upto_if 124 with fail
            go_cut [22] from 109 to 256 (fun s22 wx => wx = w2 ∧ ∃ u, s22 = .string u ∧ u.size ≤ 24)
            case first =>
              as_aux_lemma =>
              go_wp2_with fail
              all_goals go_meet
              all_goals first
                | exact ⟨rfl, _, rfl, hu0s⟩
                | exact ⟨rfl, _, rfl, by decide⟩
            case rest =>
            as_aux_lemma =>
            obtain ⟨hwc, u1, rfl, hu1⟩ := hcut
            obtain rfl := hwc.symm
            clear hn0 hu0s
            go_upto_if 126 with fail
            go_cut [22] from 109 to 256 (fun s22 wx => (∃ n, wx = w2.drewN n) ∧ ∃ u, s22 = .string u ∧ u.size ≤ 24)
            case first =>
              as_aux_lemma =>
              by_cases h16 : 16 ≤ i
              · obtain ⟨m, rfl⟩ : ∃ m, i = m + 16 := ⟨i - 16, by omega⟩
                obtain ⟨sk, so, v, rfl, hsk, hv, hcv⟩ := H1.out m (by omega)
                have hBw : Below w.heap.size w w2 := B17.out.trans (by have := HR2.out.bel; rw [← EQ.out.1] at this; exact this)
                have cv := (hBw.cell (p := ⟨sk, so + m, none⟩) hsk).trans hcv
                have hx := HR2.out.sta.x
                rw [← EQ.out.2.1, EQ.out.2.2.2.1] at hx
                have x0 := cellO hx 0
                simp at x0
                have hmI : (m : Int) < (n1 : Int) := by omega
                have hm16 : ¬ (m : Int) + 16 = 0 := by omega
                obtain ⟨k, k2, k3⟩ : ∃ k : Nat, (max v (max (wrap64 (-v)) 0)) % ((m : Int) + 16) = (k : Int) ∧ k < m + 16 := by
                  have e1 := Int.emod_nonneg (max v (max (wrap64 (-v)) 0)) (show (m : Int) + 16 ≠ 0 by omega)
                  have e2 := Int.emod_lt_of_pos (max v (max (wrap64 (-v)) 0)) (show (0 : Int) < (m : Int) + 16 by omega)
                  exact ⟨((max v (max (wrap64 (-v)) 0)) % ((m : Int) + 16)).toNat, by omega, by omega⟩
                have hkn : (k : Int) < (nn : Int) := by omega
                have hk0 : 0 ≤ max v (max (wrap64 (-v)) 0) := by omega
                have hN17 := EQ.out.2.2.2.2.1
                obtain ⟨uk, huk⟩ : ∃ uk, d.nm[k]'(by omega) = uk := ⟨_, rfl⟩
                have huks : uk.size ≤ 24 := by rw [← huk]; exact (GOOD.out.names _ (List.getElem_mem _)).2
                have hnk : w2.cell? ⟨d.nb, k, none⟩ = some (.string uk) := by
                  obtain ⟨cur, r1, r2⟩ := HR2.out.sta.row
                  rw [← huk]
                  exact (cellO r1 k).trans (r2 k (by omega))
                clear hx hcv hBw hN17 huk
                go_upto_region 34 with fail
                go_region
                all_goals (go_wp2_with fail)
                all_goals go_meet
                all_goals exact ⟨⟨1, rfl⟩, uk, rfl, huks⟩
              · go_wp2_with fail
                all_goals try (exfalso; go_light; omega)
                all_goals go_meet
                all_goals exact ⟨⟨0, rfl⟩, u1, rfl, hu1⟩
            case rest =>
            as_aux_lemma =>
            obtain ⟨⟨nq, hwc⟩, u, rfl, hu⟩ := hcut
            obtain ⟨w3, hw3⟩ : ∃ w3, w3 = wc := ⟨_, rfl⟩
            rw [← hw3]
            have g3 : Below w2.heap.size w2 w3 := by rw [hw3, hwc]; exact below_dnT (Below.refl _ _) _
            have HR3 := Lib.hid (HR2.out.later GOOD.out g3)
            clear hw3 hwc g3 y5
            clear nq
            have hus : u.size ≤ maxLen := by unfold maxLen; omega
            have lkc : ∀ nq, (Instr.lookup 50 (.map (some d.cb)) (.string u) false).run Tryz.prog (w3.drewN nq) = .ok (.int .u64 ((d.fc u.data.toList).getD 0 : Nat)) (w3.drewN nq) := fun nq => (HR3.out.sta.mc.later (below_dnT (Below.refl _ w3) nq)).look (T := 50) (s := u) Tryz.underlying50 Tryz.underlying30 (by kernel_rfl) hus
            have lkm : ∀ nq, (Instr.lookup 50 (.map (some d.mb)) (.string u) false).run Tryz.prog (w3.drewN nq) = .ok (.int .u64 ((d.fm u.data.toList).getD 0 : Nat)) (w3.drewN nq) := fun nq => (HR3.out.sta.mm.later (below_dnT (Below.refl _ w3) nq)).look (T := 50) (s := u) Tryz.underlying50 Tryz.underlying30 (by kernel_rfl) hus
            have KA := Lib.hid (show (d.fc u.data.toList).getD 0 < 18446744073709551616 from by
              cases h : d.fc u.data.toList with
              | none => exact (by decide)
              | some v => exact (HR3.out.dyn.word ((GOOD.out.cls _ _ h).p.mono HR3.out.dyn.sub)).2.2)
            have KB := Lib.hid (show (d.fm u.data.toList).getD 0 < 18446744073709551616 from by
              cases h : d.fm u.data.toList with
              | none => exact (by decide)
              | some v => exact (HR3.out.dyn.word ((GOOD.out.mts _ _ h).p.mono HR3.out.dyn.sub)).2.2)
            obtain ⟨qa, hqa⟩ : ∃ qa, (d.fc u.data.toList).getD 0 = qa := ⟨_, rfl⟩
            obtain ⟨qb, hqb⟩ : ∃ qb, (d.fm u.data.toList).getD 0 = qb := ⟨_, rfl⟩
            rw [hqa] at lkc KA
            rw [hqb] at lkm KB
            have z7 := cellO HR3.out.sta.t7 0
            simp at z7
            clear hqa hqb
            go_upto_region 35 with fail
            go_quiet (fail)
            obtain ⟨w4, hw4⟩ : ∃ w4, w4 = w3.drewN nq := ⟨_, rfl⟩
            rw [← hw4]
            have g4 : Below w3.heap.size w3 w4 := by rw [hw4]; exact below_dnT (Below.refl _ _) _
            have HR4 := Lib.hid (HR3.out.later GOOD.out g4)
            clear hw4 g4 lkc lkm z7
            clear nq
            obtain ⟨nf, hmf, hnf⟩ := HR4.out.fmt
            obtain ⟨cf, hcf, lkf⟩ := hmf.look hsz0
            obtain ⟨cu, hcu, lku⟩ := hmf.look hus
            have l0 := lkf w4 rfl
            have l1 := lku w4 rfl
            have HMF := Lib.hid hmf
            clear lkf lku hmf
            go_upto_region 36 with fail
            go_cut [159] from 109 to 158 (fun s159 wx => wx = w4 ∧ ∃ t, s159 = .bool t)
            case first =>
              as_aux_lemma =>
              by_cases hz : cf = 0
              · subst hz
                go_wp2_with fail
                all_goals go_meet
                all_goals exact ⟨rfl, _, rfl⟩
              · have hzb : (cf == 0) = false := by simpa using hz
                go_wp2_with fail
                all_goals go_meet
                all_goals exact ⟨rfl, _, rfl⟩
            case rest =>
            as_aux_lemma =>
            obtain ⟨hwc, t, rfl⟩ := hcut
            obtain rfl := hwc.symm
            go_upto_if 159 with fail
            go_cut [] from 109 to 256 (fun wx => Rnd d w17 wx (34 + 14 * nn + 13 * i) i (4 * i) (6 + 2 * i + 1) L)
            case first =>
              as_aux_lemma =>
              cases t
              · go_wp2_with fail
                go_meet
                exact HR4.out.weak (by omega)
              · obtain ⟨w5, r5, m5, g5⟩ := HMF.out.store hsz0 hcu (by omega)
                have HEND := Lib.hid (HR4.out.form GOOD.out HMF.out hnf m5 g5)
                clear m5 g5
                go_wp2_with fail
                go_meet
                exact HEND.out
            case rest =>
            as_aux_lemma =>
            clear l0 l1 HMF hnf hcf hcu
            obtain ⟨w5, hw5⟩ : ∃ w5, w5 = wc := ⟨_, rfl⟩
            rw [← hw5] at hcut ⊢
            clear hw5
            have HR5 := Lib.hid hcut
            clear hcut
            obtain ⟨nf, hmf, hnf⟩ := HR5.out.fmt
            obtain ⟨cf, hcf, lkf⟩ := hmf.look hsz0
            have l0 := lkf w5 rfl
            have LKF := Lib.hid lkf
            have hx := HR5.out.sta.x
            rw [← EQ.out.2.1, EQ.out.2.2.2.1] at hx
            have x1 := cellO hx 1
            simp at x1
            have HMF := Lib.hid hmf
            clear lkf hmf hx
            go_upto_region 38 with fail
            go_cut [181] from 109 to 180 (fun s181 wx => wx = w5 ∧ ∃ t, s181 = .bool t ∧ (t = true → 16 ≤ i ∧ i - 16 < n2))
            case first =>
              as_aux_lemma =>
              by_cases h16 : 16 ≤ i
              · obtain ⟨m, rfl⟩ : ∃ m, i = m + 16 := ⟨i - 16, by omega⟩
                by_cases hm2 : m < n2
                · have G := Lib.hid (show 16 ≤ m + 16 ∧ m + 16 - 16 < n2 from ⟨h16, by omega⟩)
                  have hm2' : (m : Int) < (n2 : Int) := by omega
                  go_wp2_with fail
                  all_goals try (exfalso; go_light; omega)
                  all_goals go_meet
                  all_goals exact ⟨rfl, _, rfl, fun _ => G.out⟩
                · have hm2' : ¬ (m : Int) < (n2 : Int) := by omega
                  go_wp2_with fail
                  all_goals try (exfalso; go_light; omega)
                  all_goals go_meet
                  all_goals exact ⟨rfl, false, rfl, fun h => by cases h⟩
              · go_wp2_with fail
                all_goals try (exfalso; go_light; omega)
                all_goals go_meet
                all_goals exact ⟨rfl, false, rfl, fun h => by cases h⟩
            case rest =>
            as_aux_lemma =>
            obtain ⟨hwc, t, rfl, htt⟩ := hcut
            obtain rfl := hwc.symm
            have HTT := Lib.hid htt
            clear htt
            go_upto_if 181 with fail
            cases t
            · go_wp2_with fail
              go_meet
              exact ⟨qa, qb, rfl, rfl, KA.out, KB.out, HR5.out.weak (by omega)⟩
            · obtain ⟨h16, hm2⟩ := HTT.out rfl
              obtain ⟨m, rfl⟩ : ∃ m, i = m + 16 := ⟨i - 16, by omega⟩
              obtain ⟨sk, so, v, rfl, hsk, hv, hcv⟩ := H2.out m (by omega)
              have hBw : Below w.heap.size w w5 := B17.out.trans (by have := HR5.out.bel; rw [← EQ.out.1] at this; exact this)
              have cv := (hBw.cell (p := ⟨sk, so + m, none⟩) hsk).trans hcv
              have hmI : (m : Int) < (n2 : Int) := by omega
              have ht0 := tmod_two v 4 (by omega)
              obtain ⟨r, hr⟩ : ∃ r, v.tmod 4 = r := ⟨_, rfl⟩
              have ht0' : -4 < r ∧ r < 4 := by rw [← hr]; exact ht0
              obtain ⟨q, hq1, hq2⟩ := rest_two v 4 (by omega)
              have hq1' : (r + 4).tmod 4 = (q : Int) := by rw [← hr]; exact hq1
              have hr4 : 0 ≤ r + 4 := by omega
              have hq1'' : (r + 4) % 4 = (q : Int) := by rw [← Int.tmod_eq_emod_of_nonneg hr4]; exact hq1'
              obtain ⟨y, hy⟩ : ∃ y, IntKind.i64.wrap (cf + 4 * (q : Int)) = y := ⟨_, rfl⟩
              have hyb : -9223372036854775808 ≤ y ∧ y < 9223372036854775808 := by rw [← hy]; simp [IntKind.wrap, IntKind.bits, IntKind.signed]; omega
              have l0' := LKF.out w5.drew rfl
              have hmd : MapW w5.drew d.fb nf := HMF.out.block rfl
              obtain ⟨w6, r6', m6, g6⟩ := hmd.store hsz0 hyb (by omega)
              have HR5' := HR5.out.later GOOD.out (Below.refl _ w5).drew
              have HEND := Lib.hid (HR5'.form GOOD.out hmd hnf m6 g6)
              clear hBw hcv ht0 hq1 hmd m6 g6 HR5'
              go_upto_region 39 with fail
              go_region
              all_goals (go_wp2_with fail)
              all_goals go_meet
              all_goals exact ⟨qa, qb, rfl, rfl, KA.out, KB.out, HEND.out⟩
-->>7
        case rest =>
        as_aux_lemma =>
        clear K6 K0 HR2
        obtain ⟨va0, vb0, rfl, rfl, hva, hvb, hr0⟩ := hcut
        obtain ⟨W0, hW0⟩ : ∃ W0, W0 = wc := ⟨_, rfl⟩
        rw [← hW0] at hr0 ⊢
        clear hW0
        have HR0 := Lib.hid hr0
        have HEE := Lib.hid (show d.E ≤ w17.heap.size from Nat.le_of_eq HE.out.symm)
        have hlt4 : d.T4 < W0.heap.size := (Array.getElem?_eq_some_iff.1 hr0.sta.t4).1
        obtain ⟨nf, hmf, hnf⟩ := hr0.fmt
        obtain ⟨cf, hcf, lkf⟩ := hmf.look hsz0
        have LKF := Lib.hid (show ∀ W', W'.heap[d.fb]? = W0.drew.heap[d.fb]? → (Instr.lookup 59 (.map (some d.fb)) (.string s0) false).run Tryz.prog W' = .ok (.int .i64 cf) W' from fun W' h => lkf W' (by rw [h, drewHeap]))
        have l0 := LKF.out W0.drew rfl
        have z4 := hr0.t4c
        have A1 := Lib.hid (rnd_list GOOD.out (hr0.later GOOD.out (Below.refl _ W0).drew) HEE.out (by omega) (by omega))
        clear lkf hr0 hmf hnf
        go_upto_region 40 with fail
        go_cut [23] from 109 to 256 (fun s23 wx => ∃ L', L ⊆ L' ∧ (∃ q, s23 = .slice (some ⟨q, 0, none⟩) 5 5) ∧ NumSl wx 30 .u64 d.C 18446744073709551616 5 s23 ∧ Rnd d w17 wx (34 + 14 * nn + 13 * i + 2 + 5 + 2) (i + 1) (4 * i + 1 + 1) (6 + 2 * i + 1 + 1) L')
--<<8
        case first =>
          as_aux_lemma =>
          obtain ⟨S, hS⟩ : ∃ S : World → Prop, S = fun W => W.cell? ⟨d.T4, 0, none⟩ = some (.pointer (some ⟨d.P, 0, none⟩)) ∧ W.heap[d.fb]? = W0.drew.heap[d.fb]? := ⟨_, rfl⟩
          have MS := Lib.hid (show ∀ W, (W.cell? ⟨d.T4, 0, none⟩ = some (.pointer (some ⟨d.P, 0, none⟩)) ∧ W.heap[d.fb]? = W0.drew.heap[d.fb]?) → S W from fun W h => by rw [hS]; exact h)
          have NS := Lib.hid (show ∀ W, S W → (W.cell? ⟨d.T4, 0, none⟩ = some (.pointer (some ⟨d.P, 0, none⟩)) ∧ W.heap[d.fb]? = W0.drew.heap[d.fb]?) from fun W h => by rw [hS] at h; exact h)
          have hz : ∀ x, (held S x).cell? ⟨d.T4, 0, none⟩ = some (.pointer (some ⟨d.P, 0, none⟩)) := fun x => (NS.out _ (held_is S x)).1
          have hl : ∀ x, (Instr.lookup 59 (.map (some d.fb)) (.string s0) false).run Tryz.prog (held S x) = .ok (.int .i64 cf) (held S x) := fun x => LKF.out _ (NS.out _ (held_is S x)).2
          have hS0 := MS.out W0.drew ⟨z4, rfl⟩
          clear hS
          have inh : Nonempty (HeldT S) := held_inh hS0
          refine wp_region_noPanic ?_
          refine wp_region_held_drew (S := S) (by kernel_rfl) hS0 (fun hHeld => ?_)
          refine seg_run [0, 1, 3, 4, 5, 7, 8, 10] 6 (by repeat (first | exact Picks.nil | apply Picks.cons rfl)) (by kernel_rfl) (fun _ _ _ _ _ h => h) (by kernel_rfl) (by kernel_rfl) (by kernel_rfl) hHeld ?_
          repeat (go_big_quiet_step (fail))
          refine wpQuiet_nil ?_
          refine eff_run 2 5 rfl (by kernel_rfl) (by kernel_rfl) ?_
          go_wp2_with fail
          refine A1.out.mono ?_
          rintro e W2 ⟨x1, L2, rfl, hx1, hs1, hr2, hp1, hf1, hk1, hb1⟩
          go_wp2_with fail
          have R2 := Lib.hid hr2; have F2 := Lib.hid hf1
          refine ⟨MS.out W2 ⟨R2.out.t4c, F2.out⟩, ?_⟩
          clear hr2 hf1 hk1 hb1 hp1
          refine eff_run 6 4 rfl (by kernel_rfl) (by kernel_rfl) ?_
          go_wp2_with fail
          refine (word_any cf W2).mono ?_
          rintro e W3 ⟨⟨x2, hx2, rfl⟩, hb2⟩
          go_wp2_with fail
          have R3 := Lib.hid (R2.out.later GOOD.out hb2)
          have F3 := Lib.hid (show W3.heap[d.fb]? = W0.drew.heap[d.fb]? from by
            obtain ⟨es, cl, hh⟩ := R2.out.fbm
            exact (hb2.block d.fb (Array.getElem?_eq_some_iff.1 hh).1).trans F2.out)
          refine ⟨MS.out W3 ⟨R3.out.t4c, F3.out⟩, ?_⟩
          clear hb2
          refine eff_run 9 3 rfl (by kernel_rfl) (by kernel_rfl) ?_
          go_wp2_with fail
          refine (rnd_sym GOOD.out R3.out s0 (by omega) NM.out.1 NM.out.2 (by omega)).mono ?_
          rintro e W4 ⟨x3, L4, rfl, hx3, hs3, hr4, hp3, hf3, hk3, hb3⟩
          go_wp2_with fail
          have R4 := Lib.hid hr4; have F4 := Lib.hid (hf3.trans F3.out)
          refine ⟨MS.out W4 ⟨R4.out.t4c, F4.out⟩, ?_⟩
          clear hr4 hf3 hk3 hb3 hp3
          refine eff_run 11 2 rfl (by kernel_rfl) (by kernel_rfl) ?_
          go_wp2_with fail
          refine (rnd_list GOOD.out R4.out HEE.out (by omega) (by omega)).mono ?_
          rintro e W5 ⟨x5, L5, rfl, hx5, hs5, hr5, hp5, hf5, hk5, hb5⟩
          go_wp2_with fail
          have R5 := Lib.hid hr5; have F5 := Lib.hid (hf5.trans F4.out)
          refine ⟨MS.out W5 ⟨R5.out.t4c, F5.out⟩, ?_⟩
          clear hr5 hf5 hk5 hb5 hp5
          refine eff_run 12 1 rfl (by kernel_rfl) (by kernel_rfl) ?_
          refine wpList_words rfl 5 _ rfl [va0, x1, x2, x3, x5] rfl (by omega) (by omega) rfl ?_
          obtain ⟨W6, hW6⟩ : ∃ W6, W6 = W5.alloc (.cells (wordVals [va0, x1, x2, x3, x5]).toArray 30) := ⟨_, rfl⟩
          rw [← hW6]
          have ga : Below W5.heap.size W5 W6 := by rw [hW6]; exact (Below.refl _ _).alloc (Nat.le_refl _) _
          have N6 := Lib.hid (show NumSl W6 30 .u64 d.C 18446744073709551616 5 (.slice (some ⟨W5.heap.size, 0, none⟩) 5 5) from by rw [hW6]; exact numSl_five W5 d.C va0 x1 x2 x3 x5 R5.out.dyn.ge hva hx1 hx2 hx3 hx5)
          have R6 := Lib.hid (R5.out.later GOOD.out ga)
          have F6 := Lib.hid (show W6.heap[d.fb]? = W0.drew.heap[d.fb]? from by
            obtain ⟨es, cl, hh⟩ := R5.out.fbm
            exact (ga.block d.fb (Array.getElem?_eq_some_iff.1 hh).1).trans F5.out)
          clear hW6 ga
          go_wp2_with fail
          have h6 := MS.out W6 ⟨R6.out.t4c, F6.out⟩
          refine ⟨h6, ?_⟩
          refine seg_run [13] 0 (by repeat (first | exact Picks.nil | apply Picks.cons rfl)) (by kernel_rfl) (fun _ _ _ _ _ h => h) (by kernel_rfl) (by kernel_rfl) (by kernel_rfl) h6 ?_
          repeat (go_big_quiet_step (fail))
          refine wpQuiet_nil ?_
          refine wpAnyH_done (by kernel_rfl) ?_ _
          refine NoPanic.normal ?_
          go_wp2_with fail
          go_meet
          exact ⟨L5, (fun s hs => hs5 (hs3 (hs1 hs))), ⟨_, rfl⟩, N6.out, R6.out⟩
-->>8
        case rest =>
        as_aux_lemma =>
        have hvb1 := hvb
        clear A1 LKF l0 z4 hlt4 hva hvb hcf
        obtain ⟨L1, hsub1, ⟨q1, rfl⟩, hns1, hr1⟩ := hcut
        obtain ⟨W1, hW1⟩ : ∃ W1, W1 = wc := ⟨_, rfl⟩
        rw [← hW1] at hns1 hr1 ⊢
        clear hW1 HR0
        have HNS1 := Lib.hid hns1; have HR1 := Lib.hid hr1; have HSUB1 := Lib.hid hsub1
        have hr1d := hr1.later GOOD.out (Below.refl _ W1).drew
        have A1 := Lib.hid (rnd_list GOOD.out hr1d HEE.out (by omega) (by omega))
        have l0 := hr1d.lkc hsz0 VC.out
        have z7 := hr1.t7c
        have hvc64 := (hr1.dyn.word (KC.out.p.mono hr1.dyn.sub)).2.2
        have HNd := Lib.hid (hns1.keepWN (KpN.below (Below.refl _ W1).drew))
        clear hns1 hr1 hsub1 hr1d
        go_upto_region 41 with fail
        go_cut [24] from 109 to 256 (fun s24 wx => ∃ L', L1 ⊆ L' ∧ (∃ q, s24 = .slice (some ⟨q, 0, none⟩) 5 5) ∧ NumSl wx 30 .u64 d.C 18446744073709551616 5 s24 ∧ NumSl wx 30 .u64 d.C 18446744073709551616 5 (.slice (some ⟨q1, 0, none⟩) 5 5) ∧ Rnd d w17 wx (34 + 14 * nn + 13 * i + 2 + 5 + 2 + 2 + 2) (i + 1) (4 * i + 1 + 1 + 1 + 1) (6 + 2 * i + 1 + 1) L')
--<<9
        case first =>
          as_aux_lemma =>
          obtain ⟨S, hS⟩ : ∃ S : World → Prop, S = fun W => W.cell? ⟨d.T7, 0, none⟩ = some (.map (some d.cb)) ∧ (Instr.lookup 50 (.map (some d.cb)) (.string s0) false).run Tryz.prog W = .ok (.int .u64 (vc : Int)) W := ⟨_, rfl⟩
          have MS := Lib.hid (show ∀ (U N m nf : Nat) (L : List Sg) (W : World), Rnd d w17 W U N m nf L → S W from fun U N m nf L W h => by rw [hS]; exact ⟨h.t7c, h.lkc hsz0 VC.out⟩)
          have NS := Lib.hid (show ∀ W, S W → (W.cell? ⟨d.T7, 0, none⟩ = some (.map (some d.cb)) ∧ (Instr.lookup 50 (.map (some d.cb)) (.string s0) false).run Tryz.prog W = .ok (.int .u64 (vc : Int)) W) from fun W h => by rw [hS] at h; exact h)
          have hz : ∀ x, (held S x).cell? ⟨d.T7, 0, none⟩ = some (.map (some d.cb)) := fun x => (NS.out _ (held_is S x)).1
          have hl : ∀ x, (Instr.lookup 50 (.map (some d.cb)) (.string s0) false).run Tryz.prog (held S x) = .ok (.int .u64 (vc : Int)) (held S x) := fun x => (NS.out _ (held_is S x)).2
          have hS0 := MS.out _ _ _ _ _ W1.drew (HR1.out.later GOOD.out (Below.refl _ W1).drew)
          clear hS l0 z7
          have inh : Nonempty (HeldT S) := held_inh hS0
          refine wp_region_noPanic ?_
          refine wp_region_held_drew (S := S) (by kernel_rfl) hS0 (fun hHeld => ?_)
          refine seg_run [0, 1, 4, 5, 6, 7] 5 (by repeat (first | exact Picks.nil | apply Picks.cons rfl)) (by kernel_rfl) (fun _ _ _ _ _ h => h) (by kernel_rfl) (by kernel_rfl) (by kernel_rfl) hHeld ?_
          repeat (go_big_quiet_step (fail))
          refine wpQuiet_nil ?_
          refine eff_run 2 4 rfl (by kernel_rfl) (by kernel_rfl) ?_
          go_wp2_with fail
          refine A1.out.mono ?_
          rintro e W2 ⟨x1, L2, rfl, hx1, hs1, hr2, hp1, hf1, hk1, hb1⟩
          go_wp2_with fail
          have R2 := Lib.hid hr2; have N2 := Lib.hid (HNd.out.keepWN hk1)
          refine ⟨MS.out _ _ _ _ _ W2 R2.out, ?_⟩
          clear hr2 hf1 hk1 hb1 hp1
          refine eff_run 3 3 rfl (by kernel_rfl) (by kernel_rfl) ?_
          go_wp2_with fail
          refine (word_any 20 W2).mono ?_
          rintro e W3 ⟨⟨x2, hx2, rfl⟩, hb2⟩
          go_wp2_with fail
          have R3 := Lib.hid (R2.out.later GOOD.out hb2); have N3 := Lib.hid (N2.out.keepWN (KpN.below hb2))
          refine ⟨MS.out _ _ _ _ _ W3 R3.out, ?_⟩
          clear hb2
          refine eff_run 8 2 rfl (by kernel_rfl) (by kernel_rfl) ?_
          go_wp2_with fail
          refine (rnd_list GOOD.out R3.out HEE.out (by omega) (by omega)).mono ?_
          rintro e W4 ⟨x4, L4, rfl, hx4, hs4, hr4, hp4, hf4, hk4, hb4⟩
          go_wp2_with fail
          have R4 := Lib.hid hr4; have N4 := Lib.hid (N3.out.keepWN hk4)
          refine ⟨MS.out _ _ _ _ _ W4 R4.out, ?_⟩
          clear hr4 hf4 hk4 hb4 hp4
          refine eff_run 9 1 rfl (by kernel_rfl) (by kernel_rfl) ?_
          refine wpList_words rfl 5 _ rfl [vb0, x1, x2, vc, x4] rfl (by omega) (by omega) rfl ?_
          obtain ⟨W6, hW6⟩ : ∃ W6, W6 = W4.alloc (.cells (wordVals [vb0, x1, x2, vc, x4]).toArray 30) := ⟨_, rfl⟩
          rw [← hW6]
          have ga : Below W4.heap.size W4 W6 := by rw [hW6]; exact (Below.refl _ _).alloc (Nat.le_refl _) _
          have N6 := Lib.hid (show NumSl W6 30 .u64 d.C 18446744073709551616 5 (.slice (some ⟨W4.heap.size, 0, none⟩) 5 5) from by rw [hW6]; exact numSl_five W4 d.C vb0 x1 x2 vc x4 R4.out.dyn.ge hvb1 hx1 hx2 hvc64 hx4)
          have N7 := Lib.hid (N4.out.keepWN (KpN.below ga))
          have R6 := Lib.hid (R4.out.later GOOD.out ga)
          clear hW6 ga
          go_wp2_with fail
          have h6 := MS.out _ _ _ _ _ W6 R6.out
          refine ⟨h6, ?_⟩
          refine seg_run [10] 0 (by repeat (first | exact Picks.nil | apply Picks.cons rfl)) (by kernel_rfl) (fun _ _ _ _ _ h => h) (by kernel_rfl) (by kernel_rfl) (by kernel_rfl) h6 ?_
          repeat (go_big_quiet_step (fail))
          refine wpQuiet_nil ?_
          refine wpAnyH_done (by kernel_rfl) ?_ _
          refine NoPanic.normal ?_
          go_wp2_with fail
          go_meet
          exact ⟨L4, (fun s hs => hs4 (hs1 hs)), ⟨_, rfl⟩, N6.out, N7.out, R6.out⟩
-->>9
        case rest =>
        as_aux_lemma =>
        clear A1 l0 z7 HNd HNS1 HR1
        obtain ⟨L2, hsub2, ⟨q2, rfl⟩, hns2, hns1, hr2⟩ := hcut
        obtain ⟨W2, hW2⟩ : ∃ W2, W2 = wc := ⟨_, rfl⟩
        rw [← hW2] at hns1 hns2 hr2 ⊢
        clear hW2
        have HR2 := Lib.hid hr2; have HSUB2 := Lib.hid hsub2
        have DC := Lib.hid (show ∀ W, Below W2.heap.size W2 W → Calls Tryz.prog 17 #[.pointer (some ⟨d.P, 0, none⟩), .int .u64 (vc : Int)] W fun e W' => ∃ b i a, e = .returned (.pointer (some ⟨b, i * 8, none⟩)) ∧ AtI d W L2 b i (a, 0, 5) ∧ Below W.heap.size W W' from fun W hW => dat_any d W _ _ L2 0 5 vc (hr2.later GOOD.out hW).dyn (KC.out.mono hr2.dyn.sub))
        have DM := Lib.hid (show ∀ W, Below W2.heap.size W2 W → Calls Tryz.prog 17 #[.pointer (some ⟨d.P, 0, none⟩), .int .u64 (vm : Int)] W fun e W' => ∃ b i a, e = .returned (.pointer (some ⟨b, i * 8, none⟩)) ∧ AtI d W L2 b i (a, 0, 5) ∧ Below W.heap.size W W' from fun W hW => dat_any d W _ _ L2 0 5 vm (hr2.later GOOD.out hW).dyn (KM.out.mono hr2.dyn.sub))
        have LK := Lib.hid (show ∀ W, Below W2.heap.size W2 W → ((Instr.lookup 50 (.map (some d.cb)) (.string s0) false).run Tryz.prog W = .ok (.int .u64 (vc : Int)) W ∧ (Instr.lookup 50 (.map (some d.mb)) (.string s0) false).run Tryz.prog W = .ok (.int .u64 (vm : Int)) W) ∧ (W.cell? ⟨d.T4, 0, none⟩ = some (.pointer (some ⟨d.P, 0, none⟩)) ∧ W.cell? ⟨d.T7, 0, none⟩ = some (.map (some d.cb))) from fun W hW => by
          have h := hr2.later GOOD.out hW
          exact ⟨⟨h.lkc hsz0 VC.out, h.lkm hsz0 VM.out⟩, h.t4c, h.t7c⟩)
        have HNS1 := Lib.hid hns1; have HNS2 := Lib.hid hns2
        obtain ⟨⟨l0, l0'⟩, y4, y7⟩ := LK.out W2.drew (Below.refl _ W2).drew
        have D1 := Lib.hid (DC.out W2.drew (Below.refl _ W2).drew)
        have z4 := hr2.t4c
        have z7 := hr2.t7c
        clear hns1 hns2 hr2 hsub2
        go_upto_region 42 with fail
        go_cut [] from 109 to 256 (fun wx => Rnd d w17 wx (34 + 14 * nn + 13 * i + 2 + 5 + 2 + 2 + 2) (i + 1) (4 * i + 1 + 1 + 1 + 1) (6 + 2 * i + 1 + 1) L2)
--<<10
        case first =>
          as_aux_lemma =>
          have D1 := Lib.hid (dat_any d W2.drew _ _ L2 0 5 vc (HR2.out.later GOOD.out (Below.refl _ W2).drew).dyn (KC.out.mono HR2.out.dyn.sub))
          obtain ⟨S, hS⟩ : ∃ S : World → Prop, S = fun W => (W.cell? ⟨d.T4, 0, none⟩ = some (.pointer (some ⟨d.P, 0, none⟩)) ∧ W.cell? ⟨d.T7, 0, none⟩ = some (.map (some d.cb))) ∧ (Instr.lookup 50 (.map (some d.cb)) (.string s0) false).run Tryz.prog W = .ok (.int .u64 (vc : Int)) W ∧ (Instr.lookup 50 (.map (some d.mb)) (.string s0) false).run Tryz.prog W = .ok (.int .u64 (vm : Int)) W := ⟨_, rfl⟩
          have MS := Lib.hid (show ∀ (U N m nf : Nat) (L : List Sg) (W : World), Rnd d w17 W U N m nf L → S W from fun U N m nf L W h => by rw [hS]; exact ⟨⟨h.t4c, h.t7c⟩, h.lkc hsz0 VC.out, h.lkm hsz0 VM.out⟩)
          have NS := Lib.hid (show ∀ W, S W → ((W.cell? ⟨d.T4, 0, none⟩ = some (.pointer (some ⟨d.P, 0, none⟩)) ∧ W.cell? ⟨d.T7, 0, none⟩ = some (.map (some d.cb))) ∧ (Instr.lookup 50 (.map (some d.cb)) (.string s0) false).run Tryz.prog W = .ok (.int .u64 (vc : Int)) W ∧ (Instr.lookup 50 (.map (some d.mb)) (.string s0) false).run Tryz.prog W = .ok (.int .u64 (vm : Int)) W) from fun W h => by rw [hS] at h; exact h)
          have hz4 : ∀ x, (held S x).cell? ⟨d.T4, 0, none⟩ = some (.pointer (some ⟨d.P, 0, none⟩)) := fun x => (NS.out _ (held_is S x)).1.1
          have hz7 : ∀ x, (held S x).cell? ⟨d.T7, 0, none⟩ = some (.map (some d.cb)) := fun x => (NS.out _ (held_is S x)).1.2
          have hlc : ∀ x, (Instr.lookup 50 (.map (some d.cb)) (.string s0) false).run Tryz.prog (held S x) = .ok (.int .u64 (vc : Int)) (held S x) := fun x => (NS.out _ (held_is S x)).2.1
          have hlm : ∀ x, (Instr.lookup 50 (.map (some d.mb)) (.string s0) false).run Tryz.prog (held S x) = .ok (.int .u64 (vm : Int)) (held S x) := fun x => (NS.out _ (held_is S x)).2.2
          have hS0 := MS.out _ _ _ _ _ W2.drew (HR2.out.later GOOD.out (Below.refl _ W2).drew)
          clear hS
          have inh : Nonempty (HeldT S) := held_inh hS0
          refine wp_region_noPanic ?_
          refine wp_region_held_drew (S := S) (by kernel_rfl) hS0 (fun hHeld => ?_)
          refine seg_run [0, 1, 2, 3, 5, 6, 7, 8, 10, 11] 8 (by repeat (first | exact Picks.nil | apply Picks.cons rfl)) (by kernel_rfl) (fun _ _ _ _ _ h => h) (by kernel_rfl) (by kernel_rfl) (by kernel_rfl) hHeld ?_
          repeat (go_big_quiet_step (fail))
          refine wpQuiet_nil ?_
          refine eff_run 4 7 rfl (by kernel_rfl) (by kernel_rfl) ?_
          go_wp2_with fail
          refine D1.out.mono ?_
          rintro e W3 ⟨b1, i1, a1, rfl, ha1, hb1⟩
          go_wp2_with fail
          have R3 := Lib.hid ((HR2.out.later GOOD.out (Below.refl _ W2).drew).later GOOD.out hb1); have AT1 := Lib.hid (ha1.later hb1); have HB3 := Lib.hid ((Below.refl _ W2).drew.trans hb1)
          refine ⟨MS.out _ _ _ _ _ W3 R3.out, ?_⟩
          clear ha1 hb1
          refine eff_run 9 6 rfl (by kernel_rfl) (by kernel_rfl) ?_
          go_wp2_with fail
          refine (dat_any d W3 _ _ L2 0 5 vm R3.out.dyn (KM.out.mono R3.out.dyn.sub)).mono ?_
          rintro e W4 ⟨b2, i2, a2, rfl, ha2, hb2⟩
          go_wp2_with fail
          have R4 := Lib.hid (R3.out.later GOOD.out hb2); have AT2 := Lib.hid (ha2.later hb2); have AT1' := Lib.hid (AT1.out.later hb2); have HB4 := Lib.hid (HB3.out.trans (hb2.mono HB3.out.size))
          refine ⟨MS.out _ _ _ _ _ W4 R4.out, ?_⟩
          clear ha2 hb2
          refine eff_run 12 5 rfl (by kernel_rfl) (by kernel_rfl) ?_
          go_wp2_with fail
          refine ⟨MS.out _ _ _ _ _ W4 R4.out, ?_⟩
          refine seg_run [13] 4 (by repeat (first | exact Picks.nil | apply Picks.cons rfl)) (by kernel_rfl) (fun _ _ _ _ _ h => h) (by kernel_rfl) (by kernel_rfl) (by kernel_rfl) (MS.out _ _ _ _ _ W4 R4.out) ?_
          repeat (go_big_quiet_step (fail))
          refine wpQuiet_nil ?_
          obtain ⟨-, ⟨cc1, hcc1⟩, hfz1, oc1, ow1, hq1, hq6⟩ := AT1'.out.blk R4.out.dyn
          have hfz6 := hfz1 (i1 * 8 + 6)
          clear hfz1 hcc1 hq1
          refine eff_run 14 3 rfl (by kernel_rfl) (by kernel_rfl) ?_
          go_wp2_with fail
          obtain ⟨W5, hW5⟩ : ∃ W5, W5 = W4.setCell ⟨b1, i1 * 8 + 6, none⟩ (.slice (some ⟨q1, 0, none⟩) 5 5) := ⟨_, rfl⟩
          rw [← hW5]
          have NW1 := HNS1.out.keepWN (KpN.below HB4.out)
          have NW2 := HNS2.out.keepWN (KpN.below HB4.out)
          have R5 := Lib.hid (show Rnd d w17 W5 _ _ _ _ _ from by rw [hW5]; exact R4.out.setO GOOD.out AT1'.out (R4.out.dyn.words AT1'.out (by decide) NW1))
          have A5 := Lib.hid (show AtI d W5 L2 b2 i2 (a2, 0, 5) from by rw [hW5]; exact AT1'.out.setO AT2.out R4.out.dyn)
          have N5 := Lib.hid (show NumSl W5 30 .u64 d.C 18446744073709551616 5 (.slice (some ⟨q2, 0, none⟩) 5 5) from by rw [hW5]; exact NW2.keepWN (AT1'.out.kpn R4.out.dyn))
          clear NW1 NW2 hW5 hq6 hfz6
          refine ⟨MS.out _ _ _ _ _ W5 R5.out, ?_⟩
          refine eff_run 15 2 rfl (by kernel_rfl) (by kernel_rfl) ?_
          go_wp2_with fail
          refine ⟨MS.out _ _ _ _ _ W5 R5.out, ?_⟩
          refine seg_run [16] 1 (by repeat (first | exact Picks.nil | apply Picks.cons rfl)) (by kernel_rfl) (fun _ _ _ _ _ h => h) (by kernel_rfl) (by kernel_rfl) (by kernel_rfl) (MS.out _ _ _ _ _ W5 R5.out) ?_
          repeat (go_big_quiet_step (fail))
          refine wpQuiet_nil ?_
          obtain ⟨-, ⟨cc1, hcc1⟩, hfz1, oc1, ow1, hq1, hq6⟩ := A5.out.blk R5.out.dyn
          have hfz6 := hfz1 (i2 * 8 + 6)
          clear hfz1 hcc1 hq1
          refine eff_run 17 0 rfl (by kernel_rfl) (by kernel_rfl) ?_
          go_wp2_with fail
          obtain ⟨W6, hW6⟩ : ∃ W6, W6 = W5.setCell ⟨b2, i2 * 8 + 6, none⟩ (.slice (some ⟨q2, 0, none⟩) 5 5) := ⟨_, rfl⟩
          rw [← hW6]
          have R6 := Lib.hid (show Rnd d w17 W6 _ _ _ _ _ from by rw [hW6]; exact R5.out.setO GOOD.out A5.out (R5.out.dyn.words A5.out (by decide) N5.out))
          clear hW6 hq6 hfz6
          refine ⟨MS.out _ _ _ _ _ W6 R6.out, ?_⟩
          refine wpAnyH_done (by kernel_rfl) ?_ _
          refine NoPanic.normal ?_
          go_wp2_with fail
          go_meet
          exact R6.out
-->>10
        case rest =>
        as_aux_lemma =>
        clear DC DM LK D1 l0 l0' y4 y7 z4 z7 HNS1 HNS2 HR2
        obtain ⟨V2, hV2⟩ : ∃ V2, V2 = wc := ⟨_, rfl⟩
        rw [← hV2] at hcut ⊢
        clear hV2
        have HR2 := Lib.hid hcut
        clear hcut
        go_upto_region 43 with fail
--<<11
        have D1 := Lib.hid (dat_any d V2.drew _ _ L2 0 5 vc (HR2.out.later GOOD.out (Below.refl _ V2).drew).dyn (KC.out.mono HR2.out.dyn.sub))
        obtain ⟨S, hS⟩ : ∃ S : World → Prop, S = fun W => (W.cell? ⟨d.T4, 0, none⟩ = some (.pointer (some ⟨d.P, 0, none⟩)) ∧ W.cell? ⟨d.T7, 0, none⟩ = some (.map (some d.cb))) ∧ (Instr.lookup 50 (.map (some d.cb)) (.string s0) false).run Tryz.prog W = .ok (.int .u64 (vc : Int)) W ∧ (Instr.lookup 50 (.map (some d.mb)) (.string s0) false).run Tryz.prog W = .ok (.int .u64 (vm : Int)) W := ⟨_, rfl⟩
        have MS := Lib.hid (show ∀ (U N m nf : Nat) (L : List Sg) (W : World), Rnd d w17 W U N m nf L → S W from fun U N m nf L W h => by rw [hS]; exact ⟨⟨h.t4c, h.t7c⟩, h.lkc hsz0 VC.out, h.lkm hsz0 VM.out⟩)
        have NS := Lib.hid (show ∀ W, S W → ((W.cell? ⟨d.T4, 0, none⟩ = some (.pointer (some ⟨d.P, 0, none⟩)) ∧ W.cell? ⟨d.T7, 0, none⟩ = some (.map (some d.cb))) ∧ (Instr.lookup 50 (.map (some d.cb)) (.string s0) false).run Tryz.prog W = .ok (.int .u64 (vc : Int)) W ∧ (Instr.lookup 50 (.map (some d.mb)) (.string s0) false).run Tryz.prog W = .ok (.int .u64 (vm : Int)) W) from fun W h => by rw [hS] at h; exact h)
        have hz4 : ∀ x, (held S x).cell? ⟨d.T4, 0, none⟩ = some (.pointer (some ⟨d.P, 0, none⟩)) := fun x => (NS.out _ (held_is S x)).1.1
        have hz7 : ∀ x, (held S x).cell? ⟨d.T7, 0, none⟩ = some (.map (some d.cb)) := fun x => (NS.out _ (held_is S x)).1.2
        have hlc : ∀ x, (Instr.lookup 50 (.map (some d.cb)) (.string s0) false).run Tryz.prog (held S x) = .ok (.int .u64 (vc : Int)) (held S x) := fun x => (NS.out _ (held_is S x)).2.1
        have hlm : ∀ x, (Instr.lookup 50 (.map (some d.mb)) (.string s0) false).run Tryz.prog (held S x) = .ok (.int .u64 (vm : Int)) (held S x) := fun x => (NS.out _ (held_is S x)).2.2
        have hS0 := MS.out _ _ _ _ _ V2.drew (HR2.out.later GOOD.out (Below.refl _ V2).drew)
        clear hS
        have inh : Nonempty (HeldT S) := held_inh hS0
        refine wp_region_noPanic ?_
        refine wp_region_held_drew (S := S) (by kernel_rfl) hS0 (fun hHeld => ?_)
        refine seg_run [0, 1, 2, 3, 5, 6, 7, 8, 10, 11, 12, 13] 11 (by repeat (first | exact Picks.nil | apply Picks.cons rfl)) (by kernel_rfl) (fun _ _ _ _ _ h => h) (by kernel_rfl) (by kernel_rfl) (by kernel_rfl) hHeld ?_
        repeat (go_big_quiet_step (fail))
        refine wpQuiet_nil ?_
        refine eff_run 4 10 rfl (by kernel_rfl) (by kernel_rfl) ?_
        go_wp2_with fail
        refine D1.out.mono ?_
        rintro e W3 ⟨b1, i1, a1, rfl, ha1, hb1⟩
        go_wp2_with fail
        have R3 := Lib.hid ((HR2.out.later GOOD.out (Below.refl _ V2).drew).later GOOD.out hb1); have AT1 := Lib.hid (ha1.later hb1); have HB3 := Lib.hid ((Below.refl _ V2).drew.trans hb1)
        refine ⟨MS.out _ _ _ _ _ W3 R3.out, ?_⟩
        clear ha1 hb1
        refine eff_run 9 9 rfl (by kernel_rfl) (by kernel_rfl) ?_
        go_wp2_with fail
        refine (dat_any d W3 _ _ L2 0 5 vm R3.out.dyn (KM.out.mono R3.out.dyn.sub)).mono ?_
        rintro e W4 ⟨b2, i2, a2, rfl, ha2, hb2⟩
        go_wp2_with fail
        have R4 := Lib.hid (R3.out.later GOOD.out hb2); have AT2 := Lib.hid (ha2.later hb2); have AT1' := Lib.hid (AT1.out.later hb2); have HB4 := Lib.hid (HB3.out.trans (hb2.mono HB3.out.size))
        refine ⟨MS.out _ _ _ _ _ W4 R4.out, ?_⟩
        clear ha2 hb2
        refine eff_run 14 8 rfl (by kernel_rfl) (by kernel_rfl) ?_
        go_wp2_with fail
        refine (droot_is d W4 GOOD.out R4.out.sta 7 2 (by omega) (by have := EQ.out.2.2.2.2.1; omega)).mono ?_
        rintro e W5 ⟨rfl, hb5⟩
        go_wp2_with fail
        have R5 := Lib.hid (R4.out.later GOOD.out hb5); have A1' := Lib.hid (AT1'.out.later hb5); have A2' := Lib.hid (AT2.out.later hb5)
        refine ⟨MS.out _ _ _ _ _ W5 R5.out, ?_⟩
        have KR := Lib.hid ((rootV_k GOOD.out (k := 2) (by have := EQ.out.2.2.2.2.1; omega)).p.mono R5.out.dyn.sub)
        clear hb5
        obtain ⟨r7, hr7⟩ : ∃ r7, rootV d 2 = r7 := ⟨_, rfl⟩
        rw [hr7] at KR ⊢
        clear hr7
        refine eff_run 15 7 rfl (by kernel_rfl) (by kernel_rfl) ?_
        go_wp2_with fail
        refine ⟨MS.out _ _ _ _ _ W5 R5.out, ?_⟩
        refine seg_run [16, 17] 5 (by repeat (first | exact Picks.nil | apply Picks.cons rfl)) (by kernel_rfl) (fun _ _ _ _ _ h => h) (by kernel_rfl) (by kernel_rfl) (by kernel_rfl) (MS.out _ _ _ _ _ W5 R5.out) ?_
        repeat (go_big_quiet_step (fail))
        refine wpQuiet_nil ?_
        obtain ⟨-, ⟨cc1, hcc1⟩, hfz1, oc1, ow1, hq1, hq6⟩ := A1'.out.blk R5.out.dyn
        have hfz6 := hfz1 (i1 * 8 + 1)
        clear hfz1 hcc1 hq6
        refine eff_run 18 4 rfl (by kernel_rfl) (by kernel_rfl) ?_
        go_wp2_with fail
        obtain ⟨W6, hW6⟩ : ∃ W6, W6 = W5.setCell ⟨b1, i1 * 8 + 1, none⟩ (.int .u64 (vm : Int)) := ⟨_, rfl⟩
        rw [← hW6]
        have R6 := Lib.hid (show Rnd d w17 W6 _ _ _ _ _ from by rw [hW6]; exact R5.out.setO GOOD.out A1'.out (R5.out.dyn.cls A1'.out (KM.out.p.mono R5.out.dyn.sub)))
        have A6 := Lib.hid (show AtI d W6 L2 b2 i2 (a2, 0, 5) from by rw [hW6]; exact A1'.out.setO A2'.out R5.out.dyn)
        clear hW6 hq1 hfz6
        refine ⟨MS.out _ _ _ _ _ W6 R6.out, ?_⟩
        refine eff_run 19 3 rfl (by kernel_rfl) (by kernel_rfl) ?_
        go_wp2_with fail
        refine ⟨MS.out _ _ _ _ _ W6 R6.out, ?_⟩
        refine seg_run [20, 21] 1 (by repeat (first | exact Picks.nil | apply Picks.cons rfl)) (by kernel_rfl) (fun _ _ _ _ _ h => h) (by kernel_rfl) (by kernel_rfl) (by kernel_rfl) (MS.out _ _ _ _ _ W6 R6.out) ?_
        repeat (go_big_quiet_step (fail))
        refine wpQuiet_nil ?_
        obtain ⟨-, ⟨cc1, hcc1⟩, hfz1, oc1, ow1, hq1, hq6⟩ := A6.out.blk R6.out.dyn
        have hfz6 := hfz1 (i2 * 8 + 1)
        clear hfz1 hcc1 hq6
        refine eff_run 22 0 rfl (by kernel_rfl) (by kernel_rfl) ?_
        go_wp2_with fail
        obtain ⟨W7, hW7⟩ : ∃ W7, W7 = W6.setCell ⟨b2, i2 * 8 + 1, none⟩ (.int .u64 (r7 : Int)) := ⟨_, rfl⟩
        rw [← hW7]
        have R7 := Lib.hid (show Rnd d w17 W7 _ _ _ _ _ from by rw [hW7]; exact R6.out.setO GOOD.out A6.out (R6.out.dyn.cls A6.out KR.out))
        clear hW7 hq1 hfz6
        refine ⟨MS.out _ _ _ _ _ W7 R7.out, ?_⟩
        refine wpAnyH_done (by kernel_rfl) ?_ _
        refine NoPanic.normal ?_
        go_wp2_with fail
        go_roundg (nn - (i + 1))
        case measure => rw [HGI.out]; omega
        case rel => exact ⟨i + 1, L2, rfl, by omega, by go_num, by
          have h := R7.out
          rw [show 34 + 14 * nn + 13 * i + 2 + 5 + 2 + 2 + 2 = 34 + 14 * nn + 13 * (i + 1) by omega, show 4 * i + 1 + 1 + 1 + 1 = 4 * (i + 1) by omega, show 6 + 2 * i + 1 + 1 = 6 + 2 * (i + 1) by omega] at h
          exact h⟩
-->>11
      · obtain rfl : i = nn := by omega
        have HEND := Lib.hid (show ∃ L, Rnd d w17 wr (34 + 14 * i + 13 * i) i (4 * i) (6 + 2 * i) L from ⟨L, HR.out⟩)
        go_wp2_with fail
        go_meet
        exact HEND.out
-->>6
  case rest =>
  as_aux_lemma =>
  obtain ⟨L0, hr0⟩ := hcut
  obtain ⟨W0, hW0⟩ : ∃ W0, W0 = wc := ⟨_, rfl⟩
  rw [← hW0] at hr0 ⊢
  clear hW0
  obtain ⟨i2, hi2, u0, u1, u2⟩ := info_parts u64Info
  have HR0 := Lib.hid hr0
  have HEE := Lib.hid (show d.E ≤ w17.heap.size from Nat.le_of_eq HE.out.symm)
  have z4 := hr0.t4c
  clear hr0 RN y5
  go_upto_region 45 with fail
  go_cut [25, 26] from 257 to 260 (fun s25 s26 wx => ∃ (a b : Nat) (L : List Sg), s25 = .int .u64 (a : Int) ∧ s26 = .int .u64 (b : Int) ∧ a < 18446744073709551616 ∧ b < 18446744073709551616 ∧ IsP L a ∧ IsP L b ∧ Rnd d w17 wx (34 + 14 * nn + 13 * nn + 2 + 5) (nn + 1) (4 * nn + 1) (6 + 2 * nn) L)
--<<12
  case first =>
    as_aux_lemma =>
    obtain ⟨S, hS⟩ : ∃ S : World → Prop, S = fun W => (W.cell? ⟨d.T4, 0, none⟩ = some (.pointer (some ⟨d.P, 0, none⟩))) := ⟨_, rfl⟩
    have MS := Lib.hid (show ∀ (U N m nf : Nat) (L : List Sg) (W : World), Rnd d w17 W U N m nf L → S W from fun U N m nf L W h => by rw [hS]; exact h.t4c)
    have NS := Lib.hid (show ∀ W, S W → ((W.cell? ⟨d.T4, 0, none⟩ = some (.pointer (some ⟨d.P, 0, none⟩)))) from fun W h => by rw [hS] at h; exact h)
    have hz0 : ∀ x, (held S x).cell? ⟨d.T4, 0, none⟩ = some (.pointer (some ⟨d.P, 0, none⟩)) := fun x => (NS.out _ (held_is S x))
    have hS0 := MS.out _ _ _ _ _ W0.drew (HR0.out.later GOOD.out (Below.refl _ W0).drew)
    clear hS
    have inh : Nonempty (HeldT S) := held_inh hS0
    refine wp_region_noPanic ?_
    refine wp_region_held_drew (S := S) (by kernel_rfl) hS0 (fun hHeld => ?_)
    refine seg_run [0, 2] 4 (by repeat (first | exact Picks.nil | apply Picks.cons rfl)) (by kernel_rfl) (fun _ _ _ _ _ h => h) (by kernel_rfl) (by kernel_rfl) (by kernel_rfl) hHeld ?_
    repeat (go_big_quiet_step (fail))
    refine wpQuiet_nil ?_
    refine eff_run 1 3 rfl (by kernel_rfl) (by kernel_rfl) ?_
    go_wp2_with fail
    refine (rnd_list GOOD.out (HR0.out.later GOOD.out (Below.refl _ W0).drew) HEE.out (by omega) (by omega)).mono ?_
    rintro e W2 ⟨x1, L2, rfl, hx1, hs1, hr2, hp1, hf1, hk1, hb1⟩
    go_wp2_with fail
    have R2 := Lib.hid hr2; have P1 := Lib.hid hp1
    refine ⟨MS.out _ _ _ _ _ W2 R2.out, ?_⟩
    clear hr2 hf1 hk1 hb1 hp1
    refine eff_run 3 2 rfl (by kernel_rfl) (by kernel_rfl) ?_
    go_wp2_with fail
    refine (rnd_sym GOOD.out R2.out _ (by omega) (by decide) (by decide) (by omega)).mono ?_
    rintro e W3 ⟨x2, L3, rfl, hx2, hs2, hr3, hp2, hf2, hk2, hb2⟩
    go_wp2_with fail
    have R3 := Lib.hid hr3; have P2 := Lib.hid hp2; have P1' := Lib.hid (P1.out.mono hs2)
    refine ⟨MS.out _ _ _ _ _ W3 R3.out, ?_⟩
    clear hr3 hf2 hk2 hb2 hp2
    refine seg_run [4, 5] 0 (by repeat (first | exact Picks.nil | apply Picks.cons rfl)) (by kernel_rfl) (fun _ _ _ _ _ h => h) (by kernel_rfl) (by kernel_rfl) (by kernel_rfl) (MS.out _ _ _ _ _ W3 R3.out) ?_
    repeat (go_big_quiet_step (fail))
    refine wpQuiet_nil ?_
    refine wpAnyH_done (by kernel_rfl) ?_ _
    refine NoPanic.normal ?_
    go_wp2_with fail
    go_meet
    exact ⟨x1, x2, L3, rfl, rfl, hx1, hx2, P1'.out, P2.out, R3.out⟩
-->>12
  case rest =>
  as_aux_lemma =>
  obtain ⟨xs, xl, L1, rfl, rfl, hxs, hxl, hps, hpl, hr1⟩ := hcut
  obtain ⟨W1, hW1⟩ : ∃ W1, W1 = wc := ⟨_, rfl⟩
  rw [← hW1] at hr1 ⊢
  clear hW1
  obtain ⟨lv, ls, l1, l2, l3, l4⟩ := hr1.lst.ex
  have hll : ls.length = 4 * nn + 1 := by
    have := l2.1
    rw [wordVals_length] at this
    omega
  have LS1 := Lib.hid (show W1.heap[d.T15]? = some (.cells #[lv] 56 (0, 0)) ∧ RowE d.E W1 L1 lv ls from ⟨l1, by rw [hll]; exact l2, l3, l4⟩)
  have hEC : d.E ≤ W1.heap.size := hr1.geE HEE.out
  have hT15s : d.T15 ≠ d.sb := by
    intro e
    obtain ⟨la, ln, lc, fs', ns', -, q, -⟩ := hr1.dyn.ex
    obtain ⟨es, cl, hm⟩ := q.mapBlk
    rw [← e, l1] at hm
    simp at hm
  have B1W := Lib.hid (show Below w.heap.size w W1 from B17.out.trans (by have := hr1.bel; rw [← EQ.out.1] at this; exact this))
  have RR1 := Lib.hid (show W1.heap[w.heap.size + 1]? = some (.cells #[.int .i64 0, .slice none 0 0, .int .u32 0] 29 (0, 0)) from hr1.fr.cell R17.out HRD.out.not (by decide))
  obtain ⟨U1, hU1⟩ : ∃ U1, 34 + 14 * nn + 13 * nn + 2 + 5 = U1 := ⟨_, rfl⟩
  obtain ⟨N1, hN1⟩ : ∃ N1, nn + 1 = N1 := ⟨_, rfl⟩
  have hU1' : U1 ≤ 640 := by omega
  have hN1' : N1 ≤ 23 := by omega
  rw [hU1, hN1] at hr1
  have R1 := Lib.hid (show Rn2 d W1 W1 U1 N1 L1 from ⟨hr1.sta, hr1.dyn, Fr.refl _ _, Below.refl _ _⟩)
  have PS := Lib.hid hps; have PL := Lib.hid hpl
  have z7 := hr1.t7c
  clear hr1 hps hpl l1 l2 l3 l4 HR0 z4 hU1 hN1 R17 B17
  go_wp2_with fail
  refine (tsorted_any d.cb d.ncl d.fc W1 R1.out.sta.mc (by have := GOOD.out.ncl; omega)).mono ?_
  rintro e W2 ⟨v5, ts, rfl, ho, hts, htl, hb2⟩
  obtain ⟨va5, vc5, rfl, hvs⟩ := owns_strs ho
  have Q12 := Lib.hid (R1.out.later GOOD.out hb2)
  have R2 := Lib.hid Q12.out.start
  have TS := Lib.hid hvs; have TK := Lib.hid hts
  have hE2 : d.E ≤ W2.heap.size := Nat.le_trans hEC hb2.size
  have htl2 : ts.length ≤ 22 := by have := GOOD.out.ncl; omega
  clear ho hvs hts hb2 z7 htl
  go_upto_block 8 with fail
  go_cut [27, 30, 264] from 265 to 277 (fun s27 s30 s264 wx => ∃ (L : List Sg) (gs : List Nat), RowE W2.heap.size wx L s27 gs ∧ gs.length = 2 * ts.length ∧ Rn2 d W2 wx (U1 + 5 * ts.length) (N1 + ts.length) L ∧ L1 ⊆ L)
--<<13
  case first =>
    as_aux_lemma =>
    go_wp2_with fail
    go_loopg [27, 264] ts.length (fun gg s27 s264 wr => ∃ (k : Nat) (L : List Sg) (gs : List Nat), gg = ts.length - k ∧ k ≤ ts.length ∧ s264 = .int .i64 (k : Int) ∧ RowE W2.heap.size wr L s27 gs ∧ gs.length = 2 * k ∧ Rn2 d W2 wr (U1 + 5 * k) (N1 + k) L ∧ L1 ⊆ L)
    case atStart => exact ⟨0, L1, [], rfl, by omega, rfl, RowE.nil _ _ _, rfl, R2.out, fun _ h => h⟩
    case round =>
      obtain ⟨k, L, gs, hgk, hk, rfl, hrow, hgl, hr, hsub⟩ := hrel
      have HGK := Lib.hid hgk; have HROW := Lib.hid hrow; have HR := Lib.hid hr; have HSUB := Lib.hid hsub; have HGL := Lib.hid hgl
      clear hgk hrow hr hsub hgl
      by_cases hlt : k < ts.length
      · obtain ⟨g, cur, rfl, hg1, hg2, hg3, hg4⟩ := TS.out k hlt
        obtain ⟨s0, hs0⟩ : ∃ s0, ts[k] = s0 := ⟨_, rfl⟩
        have hks := (TK.out s0 (by rw [← hs0]; exact List.getElem_mem hlt)).1
        have NM := Lib.hid (GOOD.out.nsz hks)
        have hsz0 : s0.size ≤ maxLen := by have := NM.out.2; unfold maxLen; omega
        obtain ⟨vcl, hvcl⟩ := Option.isSome_iff_exists.1 hks
        have VC := Lib.hid hvcl
        have hc0 : wr.cell? ⟨g, k, none⟩ = some (.string s0) := by
          rw [← hs0]
          exact (cellO (HR.out.fr.cell hg3 (by
            have h1 := GOOD.out.bP; have h2 := GOOD.out.bs
            rintro (h | h | h) <;> omega) (by decide)) k).trans hg4
        have hkI : (k : Int) < (ts.length : Int) := by omega
        clear hg3 hg4 hs0 hks hvcl
        go_upto_region 50 with fail
        obtain ⟨S, hS⟩ : ∃ S : World → Prop, S = fun W => (W.cell? ⟨d.T4, 0, none⟩ = some (.pointer (some ⟨d.P, 0, none⟩))) ∧ (W.cell? ⟨d.T7, 0, none⟩ = some (.map (some d.cb))) ∧ ((Instr.lookup 50 (.map (some d.cb)) (.string s0) false).run Tryz.prog W = .ok (.int .u64 (vcl : Int)) W) := ⟨_, rfl⟩
        have MS := Lib.hid (show ∀ (w0 : World) (U N : Nat) (L : List Sg) (W : World), Rn2 d w0 W U N L → S W from fun w0 U N L W h => by rw [hS]; exact ⟨h.t4c, h.t7c, h.lkc hsz0 VC.out⟩)
        have NS := Lib.hid (show ∀ W, S W → ((W.cell? ⟨d.T4, 0, none⟩ = some (.pointer (some ⟨d.P, 0, none⟩))) ∧ (W.cell? ⟨d.T7, 0, none⟩ = some (.map (some d.cb))) ∧ ((Instr.lookup 50 (.map (some d.cb)) (.string s0) false).run Tryz.prog W = .ok (.int .u64 (vcl : Int)) W)) from fun W h => by rw [hS] at h; exact h)
        have hz0 : ∀ x, (held S x).cell? ⟨d.T4, 0, none⟩ = some (.pointer (some ⟨d.P, 0, none⟩)) := fun x => (NS.out _ (held_is S x)).1
        have hz1 : ∀ x, (held S x).cell? ⟨d.T7, 0, none⟩ = some (.map (some d.cb)) := fun x => (NS.out _ (held_is S x)).2.1
        have hz2 : ∀ x, (Instr.lookup 50 (.map (some d.cb)) (.string s0) false).run Tryz.prog (held S x) = .ok (.int .u64 (vcl : Int)) (held S x) := fun x => (NS.out _ (held_is S x)).2.2
        have hS0 := MS.out _ _ _ _ wr.drew (HR.out.later GOOD.out (Below.refl _ wr).drew)
        clear hS hc0
        have inh : Nonempty (HeldT S) := held_inh hS0
        refine wp_region_noPanic ?_
        refine wp_region_held_drew (S := S) (by kernel_rfl) hS0 (fun hHeld => ?_)
        refine seg_run [0, 1, 2, 4, 5, 6] 4 (by repeat (first | exact Picks.nil | apply Picks.cons rfl)) (by kernel_rfl) (fun _ _ _ _ _ h => h) (by kernel_rfl) (by kernel_rfl) (by kernel_rfl) hHeld ?_
        repeat (go_big_quiet_step (fail))
        refine wpQuiet_nil ?_
        refine eff_run 3 3 rfl (by kernel_rfl) (by kernel_rfl) ?_
        go_wp2_with fail
        refine (rn2_sym GOOD.out (HR.out.later GOOD.out (Below.refl _ wr).drew) s0 (by omega) NM.out.1 NM.out.2 (by omega)).mono ?_
        rintro e W3 ⟨x1, L3, rfl, hx1, hs1, hr3, hp1, hf1, hk1, hb1⟩
        go_wp2_with fail
        have R3 := Lib.hid hr3; have P1 := Lib.hid hp1; have S1 := Lib.hid hs1
        have ROW3 := Lib.hid ((HROW.out.later (Below.refl _ wr).drew).fr hf1 (HR.out.bnd GOOD.out hE2) hs1)
        have PV := Lib.hid (show IsP L3 vcl from (GOOD.out.cls _ _ VC.out).p.mono R3.out.dyn.sub)
        have hvc64 : vcl < 18446744073709551616 := (R3.out.dyn.word PV.out).2.2
        refine ⟨MS.out _ _ _ _ W3 R3.out, ?_⟩
        clear hr3 hp1 hs1 hf1 hk1 hb1
        refine eff_run 7 2 rfl (by kernel_rfl) (by kernel_rfl) ?_
        refine wpList_words rfl 2 _ rfl [x1, vcl] rfl (by omega) (by omega) rfl ?_
        obtain ⟨W4, hW4⟩ : ∃ W4, W4 = W3.alloc (.cells (wordVals [x1, vcl]).toArray 30) := ⟨_, rfl⟩
        rw [← hW4]
        have ga : Below W3.heap.size W3 W4 := by rw [hW4]; exact (Below.refl _ _).alloc (Nat.le_refl _) _
        have NW := Lib.hid (show W4.heap[W3.heap.size]? = some (.cells (wordVals [x1, vcl]).toArray 30 (0, 0)) from by rw [hW4]; exact heap_alloc_new W3 _)
        have R4 := Lib.hid (R3.out.later GOOD.out ga); have ROW4 := Lib.hid (ROW3.out.later ga)
        clear hW4 ga
        go_wp2_with fail
        refine ⟨MS.out _ _ _ _ W4 R4.out, ?_⟩
        refine eff_run 8 1 rfl (by kernel_rfl) (by kernel_rfl) ?_
        have h24 : W2.heap.size ≤ W4.heap.size := R4.out.bel.size
        have SM := Lib.hid (small_cons hx1 (small_cons hvc64 small_nil))
        refine wpList_append_kp rfl _ _ rfl W2.heap.size i2 hi2 u0 u1 u2 _ _ _ rfl ROW4.out.own ⟨W3.heap.size, 0, none⟩ 2 2 [x1, vcl] rfl rfl SM.out (words_cell NW.out) (by rw [HGL.out]; omega) h24 ?_
        intro v' W5 ho5 hg5 hk5
        obtain ⟨r5, row5, -, -, -⟩ := R4.out.app GOOD.out ROW4.out (Nat.le_refl _) hE2 h24 SM.out (ptr_cons P1.out (ptr_cons PV.out (ptr_nil _))) ho5 hg5 hk5
        have R5 := Lib.hid r5; have ROW5 := Lib.hid row5
        clear ho5 hg5 hk5 r5 row5
        go_wp2_with fail
        refine ⟨MS.out _ _ _ _ W5 R5.out, ?_⟩
        refine seg_run [9] 0 (by repeat (first | exact Picks.nil | apply Picks.cons rfl)) (by kernel_rfl) (fun _ _ _ _ _ h => h) (by kernel_rfl) (by kernel_rfl) (by kernel_rfl) (MS.out _ _ _ _ W5 R5.out) ?_
        repeat (go_big_quiet_step (fail))
        refine wpQuiet_nil ?_
        refine wpAnyH_done (by kernel_rfl) ?_ _
        refine NoPanic.normal ?_
        go_wp2_with fail
        go_roundg (ts.length - (k + 1))
        case measure => rw [HGK.out]; omega
        case rel => exact ⟨k + 1, L3, gs ++ [x1, vcl], rfl, by omega, by go_num, ROW5.out, (by rw [List.length_append, HGL.out]; simp; omega), R5.out, fun s hs => S1.out (HSUB.out hs)⟩
      · obtain rfl : k = ts.length := by omega
        go_wp2_with fail
        go_meet
        exact ⟨L, gs, HROW.out, HGL.out, HR.out, HSUB.out⟩
-->>13
  case rest =>
  as_aux_lemma =>
  obtain ⟨L2, gs, hrow2, hgl, hr2, hsub2⟩ := hcut
  obtain ⟨W3, hW3⟩ : ∃ W3, W3 = wc := ⟨_, rfl⟩
  rw [← hW3] at hrow2 hr2 ⊢
  clear hW3
  obtain ⟨ga0, gk0, gc0, rfl⟩ := hrow2.slice
  have hCE : d.C ≤ d.E := by have := GOOD.out.bP; omega
  have NG3 := Lib.hid (hrow2.num (C := d.C) (Nat.le_trans hCE hE2))
  have Q13 := Lib.hid (Q12.out.cat hr2)
  obtain ⟨U2, hU2⟩ : ∃ U2, U1 + 5 * ts.length = U2 := ⟨_, rfl⟩
  obtain ⟨N2, hN2⟩ : ∃ N2, N1 + ts.length = N2 := ⟨_, rfl⟩
  have hU2' : U2 ≤ 750 := by omega
  have hN2' : N2 ≤ 45 := by omega
  have hgs : gs.length ≤ 44 := by omega
  rw [hU2, hN2] at hr2 Q13
  have R3 := Lib.hid hr2.start
  have PS3 := Lib.hid (PS.out.mono hsub2); have PL3 := Lib.hid (PL.out.mono hsub2); have SUB2 := Lib.hid hsub2
  obtain ⟨la3, ln3, lc3, fs, ns, hpb, hpl, hms, hpf, hns, hPlt⟩ := hr2.pblk
  have HMS := Lib.hid hms; have HPF := Lib.hid hpf
  have z4 := hr2.t4c
  have z3 := hr2.p3c
  clear hrow2 hr2 hsub2 hU2 hN2 hpb hpl hms hpf hgl PS PL Q12 R2 TS TK R1
  go_wp2_with fail
  refine (tsorted_any d.sb ns fs W3 HMS.out (by omega)).mono ?_
  rintro e W4 ⟨v6, us, rfl, ho, hus, hul, hb4⟩
  obtain ⟨va6, vc6, rfl, hvs⟩ := owns_strs ho
  have Q14 := Lib.hid (Q13.out.later GOOD.out hb4)
  have R4 := Lib.hid Q14.out.start
  have TS := Lib.hid hvs; have TK := Lib.hid hus
  have MS4 := Lib.hid (HMS.out.later hb4)
  have NG4 := Lib.hid (NG3.out.keepWN (KpN.below hb4))
  have hs34 : W3.heap.size ≤ W4.heap.size := hb4.size
  have hE3 : d.E ≤ W3.heap.size := Nat.le_trans hEC Q13.out.bel.size
  have hE4 : d.E ≤ W4.heap.size := Nat.le_trans hE3 hs34
  have hul2 : us.length ≤ 45 := by omega
  clear ho hvs hus hb4 z4 z3 hul NG3 HMS R3 Q13
  go_upto_block 10 with fail
  go_cut [28, 32, 284] from 285 to 310 (fun s28 s32 s284 wx => ∃ (ys : List Nat), RowE W4.heap.size wx L2 s28 ys ∧ ys.length = us.length ∧ Rn2 d W4 wx U2 N2 L2 ∧ KpN W4 wx)
--<<14
  case first =>
    as_aux_lemma =>
    go_wp2_with fail
    go_loopg [28, 284] us.length (fun gg s28 s284 wr => ∃ (k : Nat) (ys : List Nat), gg = us.length - k ∧ k ≤ us.length ∧ s284 = .int .i64 (k : Int) ∧ RowE W4.heap.size wr L2 s28 ys ∧ ys.length = k ∧ Rn2 d W4 wr U2 N2 L2 ∧ KpN W4 wr ∧ wr.heap[d.sb]? = W4.heap[d.sb]?)
    case atStart => exact ⟨0, [], rfl, by omega, rfl, RowE.nil _ _ _, rfl, R4.out, KpN.refl _, rfl⟩
    case round =>
      obtain ⟨k, ys, hgk, hk, rfl, hrow, hyl, hr, hkp, hsb⟩ := hrel
      have HGK := Lib.hid hgk; have HROW := Lib.hid hrow; have HR := Lib.hid hr; have HKP := Lib.hid hkp; have HYL := Lib.hid hyl; have HSB := Lib.hid hsb
      clear hgk hrow hr hkp hyl hsb
      by_cases hlt : k < us.length
      · obtain ⟨g, cur, rfl, hg1, hg2, hg3, hg4⟩ := TS.out k hlt
        obtain ⟨s0, hs0⟩ : ∃ s0, us[k] = s0 := ⟨_, rfl⟩
        have hks := TK.out s0 (by rw [← hs0]; exact List.getElem_mem hlt)
        have hsz0 : s0.size ≤ maxLen := hks.2
        obtain ⟨x0, hx0⟩ := Option.isSome_iff_exists.1 hks.1
        have PX := Lib.hid (HPF.out _ _ hx0)
        have hx64 : x0 < 18446744073709551616 := (HR.out.dyn.word PX.out).2.2
        have LKS := Lib.hid (show ∀ W : World, W.heap[d.sb]? = W4.heap[d.sb]? → (Instr.lookup 50 (.map (some d.sb)) (.string s0) false).run Tryz.prog W = .ok (.int .u64 (x0 : Int)) W from fun W h => by
          have := (MS4.out.block h).look (T := 50) (s := s0) Tryz.underlying50 Tryz.underlying30 (by kernel_rfl) hsz0
          rw [hx0] at this
          exact this)
        have hc0 : wr.cell? ⟨g, k, none⟩ = some (.string s0) := by
          rw [← hs0]
          exact (cellO (HR.out.fr.cell hg3 (by
            have h1 := GOOD.out.bP; have h2 := GOOD.out.bs
            rintro (h | h | h) <;> omega) (by decide)) k).trans hg4
        have hkI : (k : Int) < (us.length : Int) := by omega
        have z4 := HR.out.t4c
        have z3 := HR.out.p3c
        have l0 := LKS.out wr HSB.out
        clear hg3 hg4 hs0 hks hx0
        have gal : Below wr.heap.size wr (wr.alloc (.cells (wordVals [x0]).toArray 30)) := (Below.refl _ _).alloc (Nat.le_refl _) _
        have RA := Lib.hid (HR.out.later GOOD.out gal); have ROWA := Lib.hid (HROW.out.later gal); have KA := Lib.hid (HKP.out.trans (KpN.below gal))
        have NWA := Lib.hid (heap_alloc_new wr (.cells (wordVals [x0]).toArray 30))
        have hsA : W4.heap.size ≤ (wr.alloc (.cells (wordVals [x0]).toArray 30)).heap.size := RA.out.bel.size
        have SBA := Lib.hid (show (wr.alloc (.cells (wordVals [x0]).toArray 30)).heap[d.sb]? = W4.heap[d.sb]? from by
          obtain ⟨la, ln, lc, fs', ns', -, -, q, -⟩ := HR.out.pblk
          obtain ⟨es, cl, hm⟩ := q.mapBlk
          exact (gal.block d.sb (Array.getElem?_eq_some_iff.1 hm).1).trans HSB.out)
        clear gal
        have SM := Lib.hid (small_cons hx64 small_nil)
        go_upto_region 55 with fail
        go_wp2_with (first
          | (refine wpList_words rfl 1 _ rfl [x0] rfl (by omega) (by omega) rfl ?_)
          | (at_builtin; refine wpList_append_kp rfl _ _ rfl W4.heap.size i2 hi2 u0 u1 u2 _ _ _ rfl ROWA.out.own ⟨wr.heap.size, 0, none⟩ 1 1 [x0] rfl rfl SM.out (words_cell NWA.out) (by rw [HYL.out]; omega) hsA ?_)
          | fail)
        intro v' W5 ho5 hg5 hk5
        obtain ⟨r5, row5, fr5, kn5, -⟩ := RA.out.app GOOD.out ROWA.out (Nat.le_refl _) hE4 hsA SM.out (ptr_cons PX.out (ptr_nil _)) ho5 hg5 hk5
        have R5 := Lib.hid r5; have ROW5 := Lib.hid row5; have K5 := Lib.hid (KA.out.trans kn5)
        have SB5 := Lib.hid (show W5.heap[d.sb]? = W4.heap[d.sb]? from by
          obtain ⟨la, ln, lc, fs', ns', -, -, q, -⟩ := RA.out.pblk
          obtain ⟨es, cl, hm⟩ := q.mapBlk
          have h2 := GOOD.out.bs
          exact ((fr5.map hm (by show ¬ W4.heap.size ≤ d.sb; omega)).trans hm.symm).trans SBA.out)
        clear ho5 hg5 hk5 r5 row5 fr5 kn5 hc0 z4 z3 l0 hsA
        go_upto_region 56 with fail
        obtain ⟨S, hS⟩ : ∃ S : World → Prop, S = fun W => (W.cell? ⟨d.T4, 0, none⟩ = some (.pointer (some ⟨d.P, 0, none⟩))) ∧ (W.cell? ⟨d.P, 3, none⟩ = some (.map (some d.sb))) ∧ ((Instr.lookup 50 (.map (some d.sb)) (.string s0) false).run Tryz.prog W = .ok (.int .u64 (x0 : Int)) W) := ⟨_, rfl⟩
        have MS := Lib.hid (show ∀ (w0 : World) (U N : Nat) (L : List Sg) (W : World), Rn2 d w0 W U N L → W.heap[d.sb]? = W4.heap[d.sb]? → S W from fun w0 U N L W h hs => by rw [hS]; exact ⟨h.t4c, h.p3c, LKS.out W hs⟩)
        have NS := Lib.hid (show ∀ W, S W → ((W.cell? ⟨d.T4, 0, none⟩ = some (.pointer (some ⟨d.P, 0, none⟩))) ∧ (W.cell? ⟨d.P, 3, none⟩ = some (.map (some d.sb))) ∧ ((Instr.lookup 50 (.map (some d.sb)) (.string s0) false).run Tryz.prog W = .ok (.int .u64 (x0 : Int)) W)) from fun W h => by rw [hS] at h; exact h)
        have hz0 : ∀ x, (held S x).cell? ⟨d.T4, 0, none⟩ = some (.pointer (some ⟨d.P, 0, none⟩)) := fun x => (NS.out _ (held_is S x)).1
        have hz1 : ∀ x, (held S x).cell? ⟨d.P, 3, none⟩ = some (.map (some d.sb)) := fun x => (NS.out _ (held_is S x)).2.1
        have hz2 : ∀ x, (Instr.lookup 50 (.map (some d.sb)) (.string s0) false).run Tryz.prog (held S x) = .ok (.int .u64 (x0 : Int)) (held S x) := fun x => (NS.out _ (held_is S x)).2.2
        have R5d := Lib.hid (R5.out.later GOOD.out (Below.refl _ W5).drew)
        have SBL := Lib.hid (show ∀ (w0 W W' : World) (U N : Nat) (L : List Sg), Rn2 d w0 W U N L → W.heap[d.sb]? = W4.heap[d.sb]? → Below W.heap.size W W' → W'.heap[d.sb]? = W4.heap[d.sb]? from fun w0 W W' U N L h hs hb => by
          obtain ⟨la, ln, lc, fs', ns', -, -, q, -⟩ := h.pblk
          obtain ⟨es, cl, hm⟩ := q.mapBlk
          exact (hb.block d.sb (Array.getElem?_eq_some_iff.1 hm).1).trans hs)
        have hS0 := MS.out _ _ _ _ W5.drew R5d.out (SBL.out _ _ _ _ _ _ R5.out SB5.out (Below.refl _ W5).drew)
        clear hS
        have inh : Nonempty (HeldT S) := held_inh hS0
        refine wp_region_noPanic ?_
        refine wp_region_held_drew (S := S) (by kernel_rfl) hS0 (fun hHeld => ?_)
        refine seg_run [0, 1, 5, 8] 10 (by repeat (first | exact Picks.nil | apply Picks.cons rfl)) (by kernel_rfl) (fun _ _ _ _ _ h => h) (by kernel_rfl) (by kernel_rfl) (by kernel_rfl) hHeld ?_
        repeat (go_big_quiet_step (fail))
        refine wpQuiet_nil ?_
        refine eff_run 2 9 rfl (by kernel_rfl) (by kernel_rfl) ?_
        go_wp2_with fail
        refine ⟨hS0, ?_⟩
        refine seg_run [3, 4, 6] 6 (by repeat (first | exact Picks.nil | apply Picks.cons rfl)) (by kernel_rfl) (fun _ _ _ _ _ h => h) (by kernel_rfl) (by kernel_rfl) (by kernel_rfl) hS0 ?_
        repeat (go_big_quiet_step (fail))
        refine wpQuiet_nil ?_
        refine eff_run 7 5 rfl (by kernel_rfl) (by kernel_rfl) ?_
        go_wp2_with fail
        refine (rn2_at R5d.out PX.out).mono ?_
        rintro e W6 ⟨b1, i1, sg, rfl, ha1, hb1⟩
        go_wp2_with fail
        have R6 := Lib.hid (R5d.out.later GOOD.out hb1); have A6 := Lib.hid (ha1.later hb1); have ROW6 := Lib.hid ((ROW5.out.later (Below.refl _ W5).drew).later hb1); have K6 := Lib.hid ((K5.out.trans (KpN.below (Below.refl _ W5).drew)).trans (KpN.below hb1))
        have SB6 := Lib.hid (SBL.out _ _ _ _ _ _ R5d.out (SBL.out _ _ _ _ _ _ R5.out SB5.out (Below.refl _ W5).drew) hb1)
        refine ⟨MS.out _ _ _ _ W6 R6.out SB6.out, ?_⟩
        clear ha1 hb1
        refine eff_run 9 4 rfl (by kernel_rfl) (by kernel_rfl) ?_
        go_wp2_with fail
        refine (droot_is d W6 GOOD.out R6.out.sta 13 8 (by omega) (by have := EQ.out.2.2.2.2.1; omega)).mono ?_
        rintro e W7 ⟨rfl, hb7⟩
        go_wp2_with fail
        have R7 := Lib.hid (R6.out.later GOOD.out hb7); have A7 := Lib.hid (A6.out.later hb7); have ROW7 := Lib.hid (ROW6.out.later hb7); have K7 := Lib.hid (K6.out.trans (KpN.below hb7))
        have SB7 := Lib.hid (SBL.out _ _ _ _ _ _ R6.out SB6.out hb7)
        refine ⟨MS.out _ _ _ _ W7 R7.out SB7.out, ?_⟩
        have KR := Lib.hid ((rootV_k GOOD.out (k := 8) (by have := EQ.out.2.2.2.2.1; omega)).p.mono R7.out.dyn.sub)
        clear hb7
        obtain ⟨r13, hr13⟩ : ∃ r13, rootV d 8 = r13 := ⟨_, rfl⟩
        rw [hr13] at KR ⊢
        clear hr13
        refine eff_run 10 3 rfl (by kernel_rfl) (by kernel_rfl) ?_
        go_wp2_with fail
        refine ⟨MS.out _ _ _ _ W7 R7.out SB7.out, ?_⟩
        refine seg_run [11, 12] 1 (by repeat (first | exact Picks.nil | apply Picks.cons rfl)) (by kernel_rfl) (fun _ _ _ _ _ h => h) (by kernel_rfl) (by kernel_rfl) (by kernel_rfl) (MS.out _ _ _ _ W7 R7.out SB7.out) ?_
        repeat (go_big_quiet_step (fail))
        refine wpQuiet_nil ?_
        obtain ⟨-, ⟨cc1, hcc1⟩, hfz1, oc1, ow1, hq1, hq6⟩ := A7.out.blk R7.out.dyn
        have hfz6 := hfz1 (i1 * 8 + 1)
        clear hfz1 hcc1 hq6
        refine eff_run 13 0 rfl (by kernel_rfl) (by kernel_rfl) ?_
        go_wp2_with fail
        obtain ⟨W8, hW8⟩ : ∃ W8, W8 = W7.setCell ⟨b1, i1 * 8 + 1, none⟩ (.int .u64 (r13 : Int)) := ⟨_, rfl⟩
        rw [← hW8]
        have R8 := Lib.hid (show Rn2 d W4 W8 _ _ _ from by rw [hW8]; exact R7.out.setO GOOD.out A7.out (R7.out.dyn.cls A7.out KR.out))
        have ROW8 := Lib.hid (show RowE W4.heap.size W8 L2 _ _ from by rw [hW8]; exact ROW7.out.fr (X := fun _ => False) (A7.out.frO R7.out.dyn) (fun q hq => hq.elim) (fun _ h => h))
        have K8 := Lib.hid (show KpN W4 W8 from by rw [hW8]; exact K7.out.trans (A7.out.kpn R7.out.dyn))
        have SB8 := Lib.hid (show W8.heap[d.sb]? = W4.heap[d.sb]? from by
          obtain ⟨la, ln, lc, fs', ns', -, -, q, -⟩ := R7.out.pblk
          obtain ⟨es, cl, hm⟩ := q.mapBlk
          rw [hW8]
          exact (((A7.out.frO (X := fun _ => False) R7.out.dyn).map hm id).trans hm.symm).trans SB7.out)
        clear hW8 hq1 hfz6
        refine ⟨MS.out _ _ _ _ W8 R8.out SB8.out, ?_⟩
        refine wpAnyH_done (by kernel_rfl) ?_ _
        refine NoPanic.normal ?_
        go_wp2_with fail
        go_roundg (us.length - (k + 1))
        case measure => rw [HGK.out]; omega
        case rel => exact ⟨k + 1, ys ++ [x0], rfl, by omega, by go_num, ROW8.out, (by rw [List.length_append, HYL.out]; rfl), R8.out, K8.out, SB8.out⟩
      · obtain rfl : k = us.length := by omega
        go_wp2_with fail
        go_meet
        exact ⟨ys, HROW.out, HYL.out, HR.out, HKP.out⟩
-->>14
  case rest =>
  as_aux_lemma =>
  obtain ⟨ss, hrow5, hsl, hr5, hk5⟩ := hcut
  obtain ⟨W5, hW5⟩ : ∃ W5, W5 = wc := ⟨_, rfl⟩
  rw [← hW5] at hrow5 hr5 hk5 ⊢
  clear hW5
  obtain ⟨sa0, sk0, sc0, rfl⟩ := hrow5.slice
  have NS5 := Lib.hid (hrow5.num (C := d.C) (Nat.le_trans hCE hE4))
  have NG5 := Lib.hid (NG4.out.keepWN hk5)
  have Q15 := Lib.hid (Q14.out.cat hr5)
  have R5 := Lib.hid hr5.start
  have hss : ss.length ≤ 45 := by omega
  have hE5 : d.E ≤ W5.heap.size := Nat.le_trans hEC Q15.out.bel.size
  clear hrow5 hr5 hk5 hsl NG4 Q14 R4 MS4 TS TK HPF
  have gal : Below W5.heap.size W5 (W5.alloc (.cells #[] 30)) := (Below.refl _ _).alloc (Nat.le_refl _) _
  have RA := Lib.hid (R5.out.later GOOD.out gal); have ROWA := Lib.hid (row_zero W5 L2); have KA := Lib.hid (KpN.below gal)
  have hsA : W5.heap.size ≤ (W5.alloc (.cells #[] 30)).heap.size := RA.out.bel.size
  have PN0 := Lib.hid (show IsP L2 d.n0 from GOOD.out.nils.1.p.mono R5.out.dyn.sub)
  have PN1 := Lib.hid (show IsP L2 d.n1 from GOOD.out.nils.2.1.p.mono R5.out.dyn.sub)
  have PN2 := Lib.hid (show IsP L2 d.n2 from GOOD.out.nils.2.2.p.mono R5.out.dyn.sub)
  have SM := Lib.hid (small_cons (R5.out.dyn.word PN0.out).2.2 (small_cons (R5.out.dyn.word PN1.out).2.2 (small_cons (R5.out.dyn.word PN2.out).2.2 small_nil)))
  have NC := Lib.hid (show (W5.alloc (.cells #[] 30)).heap[d.Nb]? = some (.cells (wordVals [d.n0, d.n1, d.n2]).toArray 30 (0, 0)) from (R5.out.later GOOD.out gal).sta.nils)
  clear gal
  go_upto_region 58 with fail
  go_wp2_with (first
    | (refine wpList_words0 rfl rfl ?_)
    | (at_builtin; refine wpList_append_kp rfl _ _ rfl W5.heap.size i2 hi2 u0 u1 u2 _ _ _ rfl ROWA.out.own ⟨d.Nb, 0, none⟩ 3 3 [d.n0, d.n1, d.n2] rfl rfl SM.out (words_cell NC.out) (by decide) hsA ?_)
    | fail)
  intro v' W6 ho6 hg6 hk6
  obtain ⟨r6, row6, -, kn6, -⟩ := RA.out.app GOOD.out ROWA.out (Nat.le_refl _) hE5 hsA SM.out (ptr_cons PN0.out (ptr_cons PN1.out (ptr_cons PN2.out (ptr_nil _)))) ho6 hg6 hk6
  have R6 := Lib.hid r6; have ROW6 := Lib.hid (show RowE W5.heap.size W6 L2 v' [d.n0, d.n1, d.n2] from row6); have NG6 := Lib.hid ((NG5.out.keepWN KA.out).keepWN kn6); have NS6 := Lib.hid ((NS5.out.keepWN KA.out).keepWN kn6)
  clear ho6 hg6 hk6 r6 row6 kn6 RA ROWA KA SM NC NG5 NS5 R5 hsA
  have z4 := R6.out.t4c
  go_upto_region 59 with fail
  go_cut [33] from 314 to 322 (fun s33 wx => ∃ (x3 x4 : Nat) (L : List Sg), RowE W5.heap.size wx L s33 [d.n0, d.n1, d.n2, x3, x4] ∧ Rn2 d W5 wx (U2 + 2 + gs.length + 2 + ss.length) N2 L ∧ L2 ⊆ L ∧ IsP L x3 ∧ IsP L x4)
--<<15
  case first =>
    as_aux_lemma =>
    obtain ⟨S, hS⟩ : ∃ S : World → Prop, S = fun W => (W.cell? ⟨d.T4, 0, none⟩ = some (.pointer (some ⟨d.P, 0, none⟩))) := ⟨_, rfl⟩
    have MS := Lib.hid (show ∀ (w0 : World) (U N : Nat) (L : List Sg) (W : World), Rn2 d w0 W U N L → S W from fun w0 U N L W h => by rw [hS]; exact h.t4c)
    have NS := Lib.hid (show ∀ W, S W → ((W.cell? ⟨d.T4, 0, none⟩ = some (.pointer (some ⟨d.P, 0, none⟩)))) from fun W h => by rw [hS] at h; exact h)
    have hz0 : ∀ x, (held S x).cell? ⟨d.T4, 0, none⟩ = some (.pointer (some ⟨d.P, 0, none⟩)) := fun x => (NS.out _ (held_is S x))
    have R6d := Lib.hid (R6.out.later GOOD.out (Below.refl _ W6).drew)
    have KD := Lib.hid (KpN.below (Below.refl _ W6).drew)
    have hS0 := MS.out _ _ _ _ W6.drew R6d.out
    clear hS
    have inh : Nonempty (HeldT S) := held_inh hS0
    refine wp_region_noPanic ?_
    refine wp_region_held_drew (S := S) (by kernel_rfl) hS0 (fun hHeld => ?_)
    refine seg_run [0, 1, 2, 4, 5] 5 (by repeat (first | exact Picks.nil | apply Picks.cons rfl)) (by kernel_rfl) (fun _ _ _ _ _ h => h) (by kernel_rfl) (by kernel_rfl) (by kernel_rfl) hHeld ?_
    repeat (go_big_quiet_step (fail))
    refine wpQuiet_nil ?_
    refine eff_run 3 4 rfl (by kernel_rfl) (by kernel_rfl) ?_
    go_wp2_with fail
    refine (rn2_add GOOD.out R6d.out (NG6.out.keepWN KD.out) (by omega)).mono ?_
    rintro e W7 ⟨x3, L7, rfl, hx3, hs7, hr7, hp7, hf7, hk7, hb7⟩
    go_wp2_with fail
    have R7 := Lib.hid hr7; have P7 := Lib.hid hp7; have S7 := Lib.hid hs7
    have ROW7 := Lib.hid ((ROW6.out.later (Below.refl _ W6).drew).fr hf7 (fun q hq => R6.out.bnd GOOD.out hE5 q (Or.inl hq)) hs7)
    have NS7 := Lib.hid ((NS6.out.keepWN KD.out).keepWN hk7)
    refine ⟨MS.out _ _ _ _ W7 R7.out, ?_⟩
    clear hr7 hp7 hs7 hf7 hk7 hb7
    refine eff_run 6 3 rfl (by kernel_rfl) (by kernel_rfl) ?_
    go_wp2_with fail
    refine (rn2_add GOOD.out R7.out NS7.out (by omega)).mono ?_
    rintro e W8 ⟨x4, L8, rfl, hx4, hs8, hr8, hp8, hf8, hk8, hb8⟩
    go_wp2_with fail
    have R8 := Lib.hid hr8; have P8 := Lib.hid hp8; have S8 := Lib.hid hs8; have P7' := Lib.hid (P7.out.mono hs8)
    have ROW8 := Lib.hid (ROW7.out.fr hf8 (fun q hq => R6.out.bnd GOOD.out hE5 q (Or.inl hq)) hs8)
    refine ⟨MS.out _ _ _ _ W8 R8.out, ?_⟩
    clear hr8 hp8 hs8 hf8 hk8 hb8
    refine eff_run 7 2 rfl (by kernel_rfl) (by kernel_rfl) ?_
    refine wpList_words rfl 2 _ rfl [x3, x4] rfl (by omega) (by omega) rfl ?_
    obtain ⟨W9, hW9⟩ : ∃ W9, W9 = W8.alloc (.cells (wordVals [x3, x4]).toArray 30) := ⟨_, rfl⟩
    rw [← hW9]
    have ga : Below W8.heap.size W8 W9 := by rw [hW9]; exact (Below.refl _ _).alloc (Nat.le_refl _) _
    have NW := Lib.hid (show W9.heap[W8.heap.size]? = some (.cells (wordVals [x3, x4]).toArray 30 (0, 0)) from by rw [hW9]; exact heap_alloc_new W8 _)
    have R9 := Lib.hid (R8.out.later GOOD.out ga); have ROW9 := Lib.hid (ROW8.out.later ga)
    clear hW9 ga
    go_wp2_with fail
    refine ⟨MS.out _ _ _ _ W9 R9.out, ?_⟩
    refine eff_run 8 1 rfl (by kernel_rfl) (by kernel_rfl) ?_
    have h59 : W5.heap.size ≤ W9.heap.size := R9.out.bel.size
    have SM := Lib.hid (small_cons hx3 (small_cons hx4 small_nil))
    refine wpList_append_kp rfl _ _ rfl W5.heap.size i2 hi2 u0 u1 u2 _ _ _ rfl ROW9.out.own ⟨W8.heap.size, 0, none⟩ 2 2 [x3, x4] rfl rfl SM.out (words_cell NW.out) (by simp) h59 ?_
    intro v2 W10 ho10 hg10 hk10
    obtain ⟨r10, row10, -, -, -⟩ := R9.out.app GOOD.out ROW9.out (Nat.le_refl _) hE5 h59 SM.out (ptr_cons P7'.out (ptr_cons P8.out (ptr_nil _))) ho10 hg10 hk10
    have R10 := Lib.hid r10; have ROW10 := Lib.hid (show RowE W5.heap.size W10 L8 v2 [d.n0, d.n1, d.n2, x3, x4] from row10)
    clear ho10 hg10 hk10 r10 row10
    go_wp2_with fail
    refine ⟨MS.out _ _ _ _ W10 R10.out, ?_⟩
    refine seg_run [9] 0 (by repeat (first | exact Picks.nil | apply Picks.cons rfl)) (by kernel_rfl) (fun _ _ _ _ _ h => h) (by kernel_rfl) (by kernel_rfl) (by kernel_rfl) (MS.out _ _ _ _ W10 R10.out) ?_
    repeat (go_big_quiet_step (fail))
    refine wpQuiet_nil ?_
    refine wpAnyH_done (by kernel_rfl) ?_ _
    refine NoPanic.normal ?_
    go_wp2_with fail
    go_meet
    exact ⟨x3, x4, L8, ROW10.out, R10.out, (fun s hs => S8.out (S7.out hs)), P7'.out, P8.out⟩
-->>15
  case rest =>
  as_aux_lemma =>
  obtain ⟨x3, x4, L3, hrow7, hr7, hsub7, hp3, hp4⟩ := hcut
  obtain ⟨W7, hW7⟩ : ∃ W7, W7 = wc := ⟨_, rfl⟩
  rw [← hW7] at hrow7 hr7 ⊢
  clear hW7
  obtain ⟨U3, hU3⟩ : ∃ U3, U2 + 2 + gs.length + 2 + ss.length = U3 := ⟨_, rfl⟩
  have hU3' : U3 ≤ 850 := by omega
  rw [hU3] at hr7
  have R7 := Lib.hid hr7; have ROW7 := Lib.hid hrow7; have SUB3 := Lib.hid hsub7; have PX3 := Lib.hid hp3; have PX4 := Lib.hid hp4
  have PS4 := Lib.hid (PS3.out.mono hsub7); have PL4 := Lib.hid (PL3.out.mono hsub7); have PN0' := Lib.hid (PN0.out.mono hsub7)
  clear hrow7 hr7 hsub7 hp3 hp4 hU3 PS3 PL3 PN0 PN1 PN2 NG6 NS6 R6 ROW6 z4
  go_upto_block 12 with fail
  go_cut [33, 34] from 323 to 332 (fun s33 s34 wx => ∃ (rs : List Nat), RowE W5.heap.size wx L3 s33 ([d.n0, d.n1, d.n2, x3, x4] ++ rs) ∧ rs.length = 16 ∧ Rn2 d W5 wx U3 N2 L3)
--<<16
  case first =>
    as_aux_lemma =>
    go_wp2_with fail
    go_loopg [33, 34] 16 (fun gg s33 s34 wr => ∃ (k : Nat) (rs : List Nat), gg = 16 - k ∧ k ≤ 16 ∧ s34 = .int .i64 ((k : Int) + 5) ∧ RowE W5.heap.size wr L3 s33 ([d.n0, d.n1, d.n2, x3, x4] ++ rs) ∧ rs.length = k ∧ Rn2 d W5 wr U3 N2 L3)
    case atStart => exact ⟨0, [], rfl, by omega, rfl, (by rw [List.append_nil]; exact ROW7.out), rfl, R7.out⟩
    case round =>
      obtain ⟨k, rs, hgk, hk, rfl, hrow, hrl, hr⟩ := hrel
      have HGK := Lib.hid hgk; have HROW := Lib.hid hrow; have HR := Lib.hid hr; have HRL := Lib.hid hrl
      clear hgk hrow hr hrl
      by_cases hlt : k < 16
      · have hkI : (k : Int) + 5 ≤ 20 := by omega
        go_wp2_with fail
        refine (droot_is d wr GOOD.out HR.out.sta _ k rfl (by have := EQ.out.2.2.2.2.1; omega)).mono ?_
        rintro e W8 ⟨rfl, hb8⟩
        have R8 := Lib.hid (HR.out.later GOOD.out hb8); have ROW8 := Lib.hid (HROW.out.later hb8)
        have KR := Lib.hid ((rootV_k GOOD.out (k := k) (by have := EQ.out.2.2.2.2.1; omega)).p.mono R8.out.dyn.sub)
        obtain ⟨r0, hr0⟩ : ∃ r0, rootV d k = r0 := ⟨_, rfl⟩
        rw [hr0] at KR ⊢
        clear hr0 hb8
        have hr64 : r0 < 18446744073709551616 := (R8.out.dyn.word KR.out).2.2
        have gal : Below W8.heap.size W8 (W8.alloc (.cells (wordVals [r0]).toArray 30)) := (Below.refl _ _).alloc (Nat.le_refl _) _
        have RA := Lib.hid (R8.out.later GOOD.out gal); have ROWA := Lib.hid (ROW8.out.later gal)
        have NWA := Lib.hid (heap_alloc_new W8 (.cells (wordVals [r0]).toArray 30))
        have hsA : W5.heap.size ≤ (W8.alloc (.cells (wordVals [r0]).toArray 30)).heap.size := RA.out.bel.size
        clear gal
        have SM := Lib.hid (small_cons hr64 small_nil)
        go_wp2_with (first
          | (refine wpList_words rfl 1 _ rfl [r0] rfl (by omega) (by omega) rfl ?_)
          | (at_builtin; refine wpList_append_kp rfl _ _ rfl W5.heap.size i2 hi2 u0 u1 u2 _ _ _ rfl ROWA.out.own ⟨W8.heap.size, 0, none⟩ 1 1 [r0] rfl rfl SM.out (words_cell NWA.out) (by rw [List.length_append, HRL.out]; simp; omega) hsA ?_)
          | fail)
        intro v' W9 ho9 hg9 hk9
        obtain ⟨r9, row9, -, -, -⟩ := RA.out.app GOOD.out ROWA.out (Nat.le_refl _) hE5 hsA SM.out (ptr_cons KR.out (ptr_nil _)) ho9 hg9 hk9
        have R9 := Lib.hid r9; have ROW9 := Lib.hid row9
        clear ho9 hg9 hk9 r9 row9 hsA
        go_wp2_with fail
        go_roundg (16 - (k + 1))
        case measure => rw [HGK.out]; omega
        case rel => exact ⟨k + 1, rs ++ [r0], rfl, by omega, by go_num, (by rw [← List.append_assoc]; exact ROW9.out), (by rw [List.length_append, HRL.out]; rfl), R9.out⟩
      · obtain rfl : k = 16 := by omega
        go_wp2_with fail
        go_meet
        exact ⟨rs, HROW.out, HRL.out, HR.out⟩
-->>16
  case rest =>
  as_aux_lemma =>
  obtain ⟨rs, hrow8, hrl, hr8⟩ := hcut
  obtain ⟨W8, hW8⟩ : ∃ W8, W8 = wc := ⟨_, rfl⟩
  rw [← hW8] at hrow8 hr8 ⊢
  clear hW8
  have R8 := Lib.hid hr8; have ROW8 := Lib.hid hrow8; have HRL := Lib.hid hrl
  clear hrow8 hr8 hrl R7 ROW7
  have hn64 : d.n0 < 18446744073709551616 := (R8.out.dyn.word PN0'.out).2.2
  have gal : Below W8.heap.size W8 (W8.alloc (.cells (wordVals [xs, xl, d.n0]).toArray 30)) := (Below.refl _ _).alloc (Nat.le_refl _) _
  have RA := Lib.hid (R8.out.later GOOD.out gal); have ROWA := Lib.hid (ROW8.out.later gal)
  have NWA := Lib.hid (heap_alloc_new W8 (.cells (wordVals [xs, xl, d.n0]).toArray 30))
  have hsA : W5.heap.size ≤ (W8.alloc (.cells (wordVals [xs, xl, d.n0]).toArray 30)).heap.size := RA.out.bel.size
  clear gal
  have SM := Lib.hid (small_cons hxs (small_cons hxl (small_cons hn64 small_nil)))
  have yn := cellO R8.out.sta.nils 0
  simp at yn
  go_upto_region 64 with fail
  go_wp2_with (first
    | (refine wpList_words rfl 3 _ rfl [xs, xl, d.n0] rfl (by omega) (by omega) rfl ?_)
    | (at_builtin; refine wpList_append_kp rfl _ _ rfl W5.heap.size i2 hi2 u0 u1 u2 _ _ _ rfl ROWA.out.own ⟨W8.heap.size, 0, none⟩ 3 3 [xs, xl, d.n0] rfl rfl SM.out (words_cell NWA.out) (by rw [List.length_append, HRL.out]; simp) hsA ?_)
    | fail)
  intro v' W9 ho9 hg9 hk9
  obtain ⟨r9, row9, -, -, -⟩ := RA.out.app GOOD.out ROWA.out (Nat.le_refl _) hE5 hsA SM.out (ptr_cons PS4.out (ptr_cons PL4.out (ptr_cons PN0'.out (ptr_nil _)))) ho9 hg9 hk9
  obtain ⟨ws, hws⟩ : ∃ ws, [d.n0, d.n1, d.n2, x3, x4] ++ rs ++ [xs, xl, d.n0] = ws := ⟨_, rfl⟩
  have hwl : ws.length = 24 := by rw [← hws, List.length_append, List.length_append, HRL.out]; rfl
  have WS3 := Lib.hid (show ws[3]? = some x3 ∧ ws[4]? = some x4 from by rw [← hws]; exact ⟨rfl, rfl⟩)
  rw [hws] at row9
  obtain ⟨wb, wcap, rfl, hwb, hwc⟩ := row9.shape (by omega)
  rw [hwl]
  have R9 := Lib.hid r9; have ROW9 := Lib.hid row9; have WC := Lib.hid hwc; have HWL := Lib.hid hwl
  clear ho9 hg9 hk9 r9 row9 hwc hws hwl hsA RA ROWA NWA SM yn R8 ROW8 HRL
  clear rs
  have z4 := R9.out.t4c
  have zr := R9.out.p4c
  go_upto_region 65 with fail
  go_cut [] from 341 to 349 (fun wx => Rn2 d W5 wx U3 N2 L3 ∧ RowE W5.heap.size wx L3 (.slice (some ⟨wb, 0, none⟩) ws.length wcap) ws)
--<<17
  case first =>
    as_aux_lemma =>
    obtain ⟨S, hS⟩ : ∃ S : World → Prop, S = fun W => (W.cell? ⟨d.T4, 0, none⟩ = some (.pointer (some ⟨d.P, 0, none⟩))) ∧ (W.cell? ⟨d.P, 4, none⟩ = some (.int .u64 (d.root : Int))) := ⟨_, rfl⟩
    have MS := Lib.hid (show ∀ (w0 : World) (U N : Nat) (L : List Sg) (W : World), Rn2 d w0 W U N L → S W from fun w0 U N L W h => by rw [hS]; exact ⟨h.t4c, h.p4c⟩)
    have NS := Lib.hid (show ∀ W, S W → ((W.cell? ⟨d.T4, 0, none⟩ = some (.pointer (some ⟨d.P, 0, none⟩))) ∧ (W.cell? ⟨d.P, 4, none⟩ = some (.int .u64 (d.root : Int)))) from fun W h => by rw [hS] at h; exact h)
    have hz0 : ∀ x, (held S x).cell? ⟨d.T4, 0, none⟩ = some (.pointer (some ⟨d.P, 0, none⟩)) := fun x => (NS.out _ (held_is S x)).1
    have hz1 : ∀ x, (held S x).cell? ⟨d.P, 4, none⟩ = some (.int .u64 (d.root : Int)) := fun x => (NS.out _ (held_is S x)).2
    have R9d := Lib.hid (R9.out.later GOOD.out (Below.refl _ W9).drew)
    have hS0 := MS.out _ _ _ _ W9.drew R9d.out
    clear hS
    have inh : Nonempty (HeldT S) := held_inh hS0
    refine wp_region_noPanic ?_
    refine wp_region_held_drew (S := S) (by kernel_rfl) hS0 (fun hHeld => ?_)
    refine seg_run [0, 1, 6] 7 (by repeat (first | exact Picks.nil | apply Picks.cons rfl)) (by kernel_rfl) (fun _ _ _ _ _ h => h) (by kernel_rfl) (by kernel_rfl) (by kernel_rfl) hHeld ?_
    repeat (go_big_quiet_step (fail))
    refine wpQuiet_nil ?_
    refine eff_run 2 6 rfl (by kernel_rfl) (by kernel_rfl) ?_
    go_wp2_with fail
    refine ⟨hS0, ?_⟩
    refine seg_run [3, 4] 4 (by repeat (first | exact Picks.nil | apply Picks.cons rfl)) (by kernel_rfl) (fun _ _ _ _ _ h => h) (by kernel_rfl) (by kernel_rfl) (by kernel_rfl) hS0 ?_
    repeat (go_big_quiet_step (fail))
    refine wpQuiet_nil ?_
    refine eff_run 5 3 rfl (by kernel_rfl) (by kernel_rfl) ?_
    go_wp2_with fail
    refine (dat_any d W9.drew _ _ L3 1 24 d.root R9d.out.dyn (GOOD.out.root.mono R9d.out.dyn.sub)).mono ?_
    rintro e W10 ⟨b1, i1, a1, rfl, ha1, hb1⟩
    go_wp2_with fail
    have R10 := Lib.hid (R9d.out.later GOOD.out hb1); have A10 := Lib.hid (ha1.later hb1); have ROW10 := Lib.hid ((ROW9.out.later (Below.refl _ W9).drew).later hb1)
    refine ⟨MS.out _ _ _ _ W10 R10.out, ?_⟩
    clear ha1 hb1
    refine eff_run 7 2 rfl (by kernel_rfl) (by kernel_rfl) ?_
    go_wp2_with fail
    refine ⟨MS.out _ _ _ _ W10 R10.out, ?_⟩
    refine seg_run [8] 1 (by repeat (first | exact Picks.nil | apply Picks.cons rfl)) (by kernel_rfl) (fun _ _ _ _ _ h => h) (by kernel_rfl) (by kernel_rfl) (by kernel_rfl) (MS.out _ _ _ _ W10 R10.out) ?_
    repeat (go_big_quiet_step (fail))
    refine wpQuiet_nil ?_
    obtain ⟨-, ⟨cc1, hcc1⟩, hfz1, oc1, ow1, hq1, hq6⟩ := A10.out.blk R10.out.dyn
    have hfz6 := hfz1 (i1 * 8 + 6)
    clear hfz1 hcc1 hq1
    refine eff_run 9 0 rfl (by kernel_rfl) (by kernel_rfl) ?_
    go_wp2_with fail
    obtain ⟨W11, hW11⟩ : ∃ W11, W11 = W10.setCell ⟨b1, i1 * 8 + 6, none⟩ (.slice (some ⟨wb, 0, none⟩) 24 wcap) := ⟨_, rfl⟩
    rw [← hW11]
    have NU := Lib.hid (show NumSl W10 30 .u64 d.C 18446744073709551616 24 (.slice (some ⟨wb, 0, none⟩) 24 wcap) from by have h := ROW10.out.num (C := d.C) (Nat.le_trans hCE hE5); rw [HWL.out] at h; exact h)
    have R11 := Lib.hid (show Rn2 d W5 W11 _ _ _ from by rw [hW11]; exact R10.out.setO GOOD.out A10.out (R10.out.dyn.words A10.out (by decide) NU.out))
    have ROW11 := Lib.hid (show RowE W5.heap.size W11 L3 _ _ from by rw [hW11]; exact ROW10.out.fr (X := fun _ => False) (A10.out.frO R10.out.dyn) (fun q hq => hq.elim) (fun _ h => h))
    clear hW11 hq6 hfz6
    refine ⟨MS.out _ _ _ _ W11 R11.out, ?_⟩
    refine wpAnyH_done (by kernel_rfl) ?_ _
    refine NoPanic.normal ?_
    go_wp2_with fail
    go_meet
    exact ⟨R11.out, ROW11.out⟩
-->>17
  case rest =>
  as_aux_lemma =>
  obtain ⟨hr10, hrow10⟩ := hcut
  obtain ⟨W10, hW10⟩ : ∃ W10, W10 = wc := ⟨_, rfl⟩
  rw [← hW10] at hrow10 hr10 ⊢
  clear hW10
  have Q1A := Lib.hid (Q15.out.cat hr10)
  have R10 := Lib.hid hr10
  have hwl := HWL.out
  have hw3 := WC.out W10 hrow10 3 (by omega)
  have hw4 := WC.out W10 hrow10 4 (by omega)
  have e3 : ws[3] = x3 := by have h := WS3.out.1; rw [List.getElem?_eq_getElem (by omega)] at h; exact Option.some.inj h
  have e4 : ws[4] = x4 := by have h := WS3.out.2; rw [List.getElem?_eq_getElem (by omega)] at h; exact Option.some.inj h
  rw [e3] at hw3
  rw [e4] at hw4
  have NT15 : ¬ (d.T15 = d.P ∨ d.T15 = d.sb ∨ W1.heap.size ≤ d.T15) := by
    rintro (h | h | h)
    · exact GOOD.out.bP.2.2 h.symm
    · exact hT15s h
    · have := GOOD.out.b15; omega
  have h15 := Q1A.out.fr.cell LS1.out.1 NT15 (by decide)
  have y15 := cellO h15 0
  simp at y15
  have ROWL := Lib.hid (LS1.out.2.frw Q1A.out.fr (fun q h1 h2 => by
    have h3 := GOOD.out.bP; have h4 := GOOD.out.bs
    rintro (h | h | h) <;> omega) (fun s hs => SUB3.out (SUB2.out hs)))
  have BW10 := Lib.hid (show Below w.heap.size w W10 from B1W.out.trans (by have := Q1A.out.bel; rw [← EQ.out.1] at this; exact this))
  have RR10 := Lib.hid (show W10.heap[w.heap.size + 1]? = some (.cells #[.int .i64 0, .slice none 0 0, .int .u32 0] 29 (0, 0)) from Q1A.out.fr.cell RR1.out (by
    have h1 := HRD.out
    have h2 := (Array.getElem?_eq_some_iff.1 RR1.out).1
    rintro (h | h | h)
    · exact h1.2.1 h
    · exact h1.2.2.1 h
    · omega) (by decide))
  have PR := Lib.hid (show IsP L3 d.root from GOOD.out.root.p.mono R10.out.dyn.sub)
  have hxr : d.root < 18446744073709551616 := (R10.out.dyn.word PR.out).2.2
  have hx3 : x3 < 18446744073709551616 := (R10.out.dyn.word PX3.out).2.2
  have hx4 : x4 < 18446744073709551616 := (R10.out.dyn.word PX4.out).2.2
  have hll3 : ls.length + 3 ≤ 100 := by omega
  have hz15 : d.T15 < W10.heap.size := (Array.getElem?_eq_some_iff.1 h15).1
  clear hr10 hrow10 h15 NT15 R9 ROW9 z4 zr e3 e4
  obtain ⟨lva, lvn, lvc, rfl⟩ := ROWL.out.slice
  go_upto_region 66 with fail
  obtain ⟨S, hS⟩ : ∃ S : World → Prop, S = fun W => (W.cell? ⟨d.T4, 0, none⟩ = some (.pointer (some ⟨d.P, 0, none⟩))) ∧ (W.cell? ⟨d.P, 4, none⟩ = some (.int .u64 (d.root : Int))) ∧ (W.cell? ⟨d.T15, 0, none⟩ = some (.slice lva lvn lvc)) ∧ (W.cell? ⟨wb, 3, none⟩ = some (.int .u64 (x3 : Int))) ∧ (W.cell? ⟨wb, 4, none⟩ = some (.int .u64 (x4 : Int))) := ⟨_, rfl⟩
  have MS := Lib.hid (show ∀ (W : World), ((W.cell? ⟨d.T4, 0, none⟩ = some (.pointer (some ⟨d.P, 0, none⟩))) ∧ (W.cell? ⟨d.P, 4, none⟩ = some (.int .u64 (d.root : Int))) ∧ (W.cell? ⟨d.T15, 0, none⟩ = some (.slice lva lvn lvc)) ∧ (W.cell? ⟨wb, 3, none⟩ = some (.int .u64 (x3 : Int))) ∧ (W.cell? ⟨wb, 4, none⟩ = some (.int .u64 (x4 : Int)))) → S W from fun W h => by rw [hS]; exact h)
  have NS := Lib.hid (show ∀ W, S W → ((W.cell? ⟨d.T4, 0, none⟩ = some (.pointer (some ⟨d.P, 0, none⟩))) ∧ (W.cell? ⟨d.P, 4, none⟩ = some (.int .u64 (d.root : Int))) ∧ (W.cell? ⟨d.T15, 0, none⟩ = some (.slice lva lvn lvc)) ∧ (W.cell? ⟨wb, 3, none⟩ = some (.int .u64 (x3 : Int))) ∧ (W.cell? ⟨wb, 4, none⟩ = some (.int .u64 (x4 : Int)))) from fun W h => by rw [hS] at h; exact h)
  have hz0 : ∀ x, (held S x).cell? ⟨d.T4, 0, none⟩ = some (.pointer (some ⟨d.P, 0, none⟩)) := fun x => (NS.out _ (held_is S x)).1
  have hz1 : ∀ x, (held S x).cell? ⟨d.P, 4, none⟩ = some (.int .u64 (d.root : Int)) := fun x => (NS.out _ (held_is S x)).2.1
  have hz2 : ∀ x, (held S x).cell? ⟨d.T15, 0, none⟩ = some (.slice lva lvn lvc) := fun x => (NS.out _ (held_is S x)).2.2.1
  have hz3 : ∀ x, (held S x).cell? ⟨wb, 3, none⟩ = some (.int .u64 (x3 : Int)) := fun x => (NS.out _ (held_is S x)).2.2.2.1
  have hz4 : ∀ x, (held S x).cell? ⟨wb, 4, none⟩ = some (.int .u64 (x4 : Int)) := fun x => (NS.out _ (held_is S x)).2.2.2.2
  have MSB := Lib.hid (show ∀ W, Below W10.heap.size W10 W → S W from fun W h => MS.out W ⟨(R10.out.later GOOD.out h).t4c, (R10.out.later GOOD.out h).p4c, (h.cell (p := ⟨d.T15, 0, none⟩) hz15).trans y15, (h.cell (p := ⟨wb, 3, none⟩) (lt_of_cell hw3)).trans hw3, (h.cell (p := ⟨wb, 4, none⟩) (lt_of_cell hw4)).trans hw4⟩)
  have hwn : some wb ≠ (Value.slice lva lvn lvc).ownBlock := fun e => by have h1 := (LS1.out.2.own.lt wb e.symm).2; have h2 := Q15.out.bel.size; omega
  have htn : some d.T15 ≠ (Value.slice lva lvn lvc).ownBlock := fun e => by have h1 := (LS1.out.2.own.lt _ e.symm).1; have h2 := GOOD.out.b15; omega
  have HWN := Lib.hid hwn; have HTN := Lib.hid htn; have hwbl : wb < W10.heap.size := lt_of_cell hw3
  clear hwn htn
  have hS0 := MSB.out W10.drew (Below.refl _ W10).drew
  clear hS
  have inh : Nonempty (HeldT S) := held_inh hS0
  refine wp_region_noPanic ?_
  refine wp_region_held_drew (S := S) (by kernel_rfl) hS0 (fun hHeld => ?_)
  refine seg_run [0, 1, 5, 6, 7, 8, 9, 10, 14] 6 (by repeat (first | exact Picks.nil | apply Picks.cons rfl)) (by kernel_rfl) (fun _ _ _ _ _ h => h) (by kernel_rfl) (by kernel_rfl) (by kernel_rfl) hHeld ?_
  repeat (go_big_quiet_step (fail))
  refine wpQuiet_nil ?_
  refine eff_run 2 5 rfl (by kernel_rfl) (by kernel_rfl) ?_
  go_wp2_with fail
  refine ⟨hS0, ?_⟩
  refine seg_run [3, 4] 3 (by repeat (first | exact Picks.nil | apply Picks.cons rfl)) (by kernel_rfl) (fun _ _ _ _ _ h => h) (by kernel_rfl) (by kernel_rfl) (by kernel_rfl) hS0 ?_
  repeat (go_big_quiet_step (fail))
  refine wpQuiet_nil ?_
  refine eff_run 11 2 rfl (by kernel_rfl) (by kernel_rfl) ?_
  refine wpList_words rfl 3 _ rfl [d.root, x3, x4] rfl (by omega) (by omega) rfl ?_
  obtain ⟨W11, hW11⟩ : ∃ W11, W11 = W10.drew.alloc (.cells (wordVals [d.root, x3, x4]).toArray 30) := ⟨_, rfl⟩
  rw [← hW11]
  have ga : Below W10.drew.heap.size W10.drew W11 := by rw [hW11]; exact (Below.refl _ _).alloc (Nat.le_refl _) _
  have NW := Lib.hid (show W11.heap[W10.drew.heap.size]? = some (.cells (wordVals [d.root, x3, x4]).toArray 30 (0, 0)) from by rw [hW11]; exact heap_alloc_new W10.drew _)
  have g11 : Below W10.heap.size W10 W11 := (Below.refl _ W10).drew.trans ga
  have R11 := Lib.hid (R10.out.later GOOD.out g11); have ROW11 := Lib.hid (ROWL.out.later g11)
  have BW11 := Lib.hid (BW10.out.trans (g11.mono BW10.out.size)); have RR11 := Lib.hid ((g11.block _ (Array.getElem?_eq_some_iff.1 RR10.out).1).trans RR10.out)
  have hs11 := MSB.out W11 g11
  have W11w := Lib.hid (g11.block wb hwbl); have W11t := Lib.hid (g11.block d.T15 hz15); have hsz11b : W10.heap.size ≤ W11.heap.size := g11.size
  have hsz11 : d.E ≤ W11.heap.size := Nat.le_trans hE5 R11.out.bel.size
  clear hW11 ga
  go_wp2_with fail
  refine ⟨hs11, ?_⟩
  refine eff_run 12 1 rfl (by kernel_rfl) (by kernel_rfl) ?_
  have SM := Lib.hid (small_cons hxr (small_cons hx3 (small_cons hx4 small_nil)))
  refine wpList_append_kp rfl _ _ rfl d.E i2 hi2 u0 u1 u2 _ _ _ rfl ROW11.out.own ⟨W10.heap.size, 0, none⟩ 3 3 [d.root, x3, x4] rfl rfl SM.out (words_cell NW.out) (by omega) hsz11 ?_
  intro v' W12 ho12 hg12 hk12
  obtain ⟨r12, row12, f12, -, b12⟩ := R11.out.app' GOOD.out ROW11.out (Nat.le_refl _) hsz11 SM.out (ptr_cons PR.out (ptr_cons PX3.out (ptr_cons PX4.out (ptr_nil _)))) ho12 hg12 hk12
  have BW12 := Lib.hid (BW11.out.trans (b12.mono (by have := HEE.out; have h1 := EQ.out.1; have h2 := GOOD.out.bP; omega)))
  have RR12 := Lib.hid (f12.cell RR11.out (by show ¬ d.E ≤ w.heap.size + 1; have := HRD.out.1; omega) (by decide))
  obtain ⟨qs, hqs⟩ : ∃ qs, ls ++ [d.root, x3, x4] = qs := ⟨_, rfl⟩
  have hql : qs.length = ls.length + 3 := by rw [← hqs, List.length_append]; rfl
  rw [hqs] at row12
  have R12 := Lib.hid r12; have ROW12 := Lib.hid row12; have HQL := Lib.hid hql
  obtain ⟨qb, qcap, rfl, hqb, hqc⟩ := row12.shape (by omega)
  have QC := Lib.hid hqc
  have S12 : S W12 := MS.out W12 ⟨r12.t4c, r12.p4c, (World.cell?_of_block (w := W10) ((hg12.block d.T15 (by omega) HTN.out).trans W11t.out)).trans y15, (World.cell?_of_block (w := W10) ((hg12.block wb (by omega) HWN.out).trans W11w.out)).trans hw3, (World.cell?_of_block (w := W10) ((hg12.block wb (by omega) HWN.out).trans W11w.out)).trans hw4⟩
  clear ho12 hg12 hk12 r12 row12 f12 b12 hqs hqc hql
  go_wp2_with fail
  refine ⟨S12, ?_⟩
  refine eff_run 13 0 rfl (by kernel_rfl) (by kernel_rfl) ?_
  go_wp2_with fail
  refine ⟨S12, ?_⟩
  refine wpAnyH_done (by kernel_rfl) ?_ _
  refine NoPanic.normal ?_
  clear S12 hs11 hS0 inh MS NS MSB hz0 hz1 hz2 hz3 hz4 HWN HTN W11w W11t y15 hw3 hw4 R11 ROW11 BW11 RR11 ROWL RR10 BW10 NW R10
  go_upto_block 14 with fail
  go_cut [36, 364] from 365 to 376 (fun s36 s364 wx => Rn2 d W12 wx U3 N2 L3)
--<<19
  case first =>
    as_aux_lemma =>
    have hqb2 : qs.length ≤ 100 := by have := HQL.out; omega
    go_wp2_with fail
    go_loopg [364] qs.length (fun gg s364 wr => ∃ k : Nat, gg = qs.length - k ∧ k ≤ qs.length ∧ s364 = .int .i64 (k : Int) ∧ Rn2 d W12 wr U3 N2 L3 ∧ RowE d.E wr L3 (.slice (some ⟨qb, 0, none⟩) qs.length qcap) qs)
    case atStart => exact ⟨0, rfl, by omega, rfl, R12.out, ROW12.out⟩
    case round =>
      obtain ⟨k, hgk, hk, rfl, hr, hrow⟩ := hrel
      have HGK := Lib.hid hgk; have HROW := Lib.hid hrow; have HR := Lib.hid hr
      clear hgk hrow hr
      by_cases hlt : k < qs.length
      · obtain ⟨q0, hq0⟩ : ∃ q0, qs[k] = q0 := ⟨_, rfl⟩
        have hc0 : wr.cell? ⟨qb, k, none⟩ = some (.int .u64 (q0 : Int)) := by rw [← hq0]; exact QC.out wr HROW.out k hlt
        have PQ := Lib.hid (show IsP L3 q0 from HROW.out.ptr q0 (by rw [← hq0]; exact List.getElem_mem hlt))
        have hkI : (k : Int) < (qs.length : Int) := by omega
        have z4 := HR.out.t4c
        clear hq0
        go_wp2_with fail
        refine (rn2_at HR.out PQ.out).mono ?_
        rintro e W13 ⟨b1, i1, sg, rfl, ha1, hb1⟩
        have R13 := Lib.hid (HR.out.later GOOD.out hb1); have A13 := Lib.hid (ha1.later hb1); have ROW13 := Lib.hid (HROW.out.later hb1)
        clear ha1 hb1 hc0 z4
        go_wp2_with fail
        refine (droot_is d W13 GOOD.out R13.out.sta 14 9 (by omega) (by have := EQ.out.2.2.2.2.1; omega)).mono ?_
        rintro e W14 ⟨rfl, hb14⟩
        have R14 := Lib.hid (R13.out.later GOOD.out hb14); have A14 := Lib.hid (A13.out.later hb14); have ROW14 := Lib.hid (ROW13.out.later hb14)
        have KR := Lib.hid ((rootV_k GOOD.out (k := 9) (by have := EQ.out.2.2.2.2.1; omega)).p.mono R14.out.dyn.sub)
        obtain ⟨r14, hr14⟩ : ∃ r14, rootV d 9 = r14 := ⟨_, rfl⟩
        rw [hr14] at KR ⊢
        clear hr14 hb14
        obtain ⟨-, ⟨cc1, hcc1⟩, hfz1, oc1, ow1, hq1, hq6⟩ := A14.out.blk R14.out.dyn
        have hfz6 := hfz1 (i1 * 8 + 1)
        clear hfz1 hcc1 hq6
        have FIN := Lib.hid (show Rn2 d W12 (W14.setCell ⟨b1, i1 * 8 + 1, none⟩ (.int .u64 (r14 : Int))) U3 N2 L3 ∧ RowE d.E (W14.setCell ⟨b1, i1 * 8 + 1, none⟩ (.int .u64 (r14 : Int))) L3 (.slice (some ⟨qb, 0, none⟩) qs.length qcap) qs from
          ⟨R14.out.setO GOOD.out A14.out (R14.out.dyn.cls A14.out KR.out), ROW14.out.fr (X := fun _ => False) (A14.out.frO R14.out.dyn) (fun q hq => hq.elim) (fun _ h => h)⟩)
        go_wp2_with fail
        go_roundg (qs.length - (k + 1))
        case measure => rw [HGK.out]; omega
        case rel => exact ⟨k + 1, rfl, by omega, by go_num, FIN.out.1, FIN.out.2⟩
      · obtain rfl : k = qs.length := by omega
        go_wp2_with fail
        go_meet
        exact HR.out
-->>19
  case rest =>
  as_aux_lemma =>
  obtain ⟨W13, hW13⟩ : ∃ W13, W13 = wc := ⟨_, rfl⟩
  rw [← hW13] at hcut ⊢
  clear hW13
  have R13 := Lib.hid hcut
  have BW13 := Lib.hid (show Below w.heap.size w W13 from BW12.out.trans (by have := hcut.bel; rw [← EQ.out.1] at this; exact this))
  have RR13 := Lib.hid (show W13.heap[w.heap.size + 1]? = some (.cells #[.int .i64 0, .slice none 0 0, .int .u32 0] 29 (0, 0)) from hcut.fr.cell RR12.out (by
    have h1 := HRD.out
    have h2 := (Array.getElem?_eq_some_iff.1 RR12.out).1
    rintro (h | h | h)
    · exact h1.2.1 h
    · exact h1.2.2.1 h
    · omega) (by decide))
  clear hcut R12 ROW12 BW12 RR12 QC
  go_upto_block 16 with fail
  go_cut [37, 38, 379] from 380 to 394 (fun s37 s38 s379 wx => Rn2 d W13 wx U3 N2 L3)
--<<20
  case first =>
    as_aux_lemma =>
    go_wp2_with fail
    go_loopg [379] 3 (fun gg s379 wr => ∃ k : Nat, gg = 3 - k ∧ k ≤ 3 ∧ s379 = .int .i64 (k : Int) ∧ Rn2 d W13 wr U3 N2 L3)
    case atStart => exact ⟨0, rfl, by omega, rfl, R13.out.start⟩
    case round =>
      obtain ⟨k, hgk, hk, rfl, hr⟩ := hrel
      have HGK := Lib.hid hgk; have HR := Lib.hid hr
      clear hgk hr
      by_cases hlt : k < 3
      · have hc0 := nilV_c HR.out.sta k hlt
        have PQ := Lib.hid (show IsP L3 (nilV d k) from (nilV_k GOOD.out k).p.mono HR.out.dyn.sub)
        obtain ⟨q0, hq0⟩ : ∃ q0, nilV d k = q0 := ⟨_, rfl⟩
        rw [hq0] at hc0 PQ
        have hkI : (k : Int) < 3 := by omega
        have z4 := HR.out.t4c
        clear hq0
        go_wp2_with fail
        refine (rn2_at HR.out PQ.out).mono ?_
        rintro e W14 ⟨b1, i1, sg, rfl, ha1, hb1⟩
        have R14 := Lib.hid (HR.out.later GOOD.out hb1); have A14 := Lib.hid (ha1.later hb1)
        clear ha1 hb1 hc0 z4
        go_wp2_with fail
        refine (droot_is d W14 GOOD.out R14.out.sta _ (3 + k) (by omega) (by have := EQ.out.2.2.2.2.1; omega)).mono ?_
        rintro e W15 ⟨rfl, hb15⟩
        have R15 := Lib.hid (R14.out.later GOOD.out hb15); have A15 := Lib.hid (A14.out.later hb15)
        have KR := Lib.hid ((rootV_k GOOD.out (k := 3 + k) (by have := EQ.out.2.2.2.2.1; omega)).p.mono R15.out.dyn.sub)
        obtain ⟨r15, hr15⟩ : ∃ r15, rootV d (3 + k) = r15 := ⟨_, rfl⟩
        rw [hr15] at KR ⊢
        clear hr15 hb15
        obtain ⟨-, ⟨cc1, hcc1⟩, hfz1, oc1, ow1, hq1, hq6⟩ := A15.out.blk R15.out.dyn
        have hfz6 := hfz1 (i1 * 8 + 1)
        clear hfz1 hcc1 hq6
        have FIN := Lib.hid (show Rn2 d W13 (W15.setCell ⟨b1, i1 * 8 + 1, none⟩ (.int .u64 (r15 : Int))) U3 N2 L3 from R15.out.setO GOOD.out A15.out (R15.out.dyn.cls A15.out KR.out))
        go_wp2_with fail
        go_roundg (3 - (k + 1))
        case measure => rw [HGK.out]; omega
        case rel => exact ⟨k + 1, rfl, by omega, by go_num, FIN.out⟩
      · obtain rfl : k = 3 := by omega
        go_wp2_with fail
        go_meet
        exact HR.out
-->>20
  case rest =>
  as_aux_lemma =>
  obtain ⟨W15, hW15⟩ : ∃ W15, W15 = wc := ⟨_, rfl⟩
  rw [← hW15] at hcut ⊢
  clear hW15
  obtain ⟨la, ln, lc, fs', ns', hpb, hpl, -, -, -, hPlt⟩ := hcut.pblk
  have BW15 := Lib.hid (show Below w.heap.size w W15 from BW13.out.trans (by have := hcut.bel; rw [← EQ.out.1] at this; exact this))
  have RR15 := Lib.hid (show W15.heap[w.heap.size + 1]? = some (.cells #[.int .i64 0, .slice none 0 0, .int .u32 0] 29 (0, 0)) from hcut.fr.cell RR13.out (by
    have h1 := HRD.out
    have h2 := (Array.getElem?_eq_some_iff.1 RR13.out).1
    rintro (h | h | h)
    · exact h1.2.1 h
    · exact h1.2.2.1 h
    · omega) (by decide))
  have R15 := Lib.hid hcut
  have HPL := Lib.hid hpl
  have p0 := cellO hpb 0
  have p1 := cellO hpb 1
  have p2 := cellO hpb 2
  have p4 := cellO hpb 4
  have q0 := cellO RR15.out 0
  have q1 := cellO RR15.out 1
  have q2 := cellO RR15.out 2
  have qf : ∀ j, W15.frozen? ⟨w.heap.size + 1, j, none⟩ = false := fun j => by unfold World.frozen?; rw [RR15.out]; cases j <;> rfl
  have f0 := qf 0
  have f1 := qf 1
  have f2 := qf 2
  have z4 := hcut.t4c
  simp at p0 p1 p2 p4 q0 q1 q2
  have n4 : ¬ d.T4 = w.heap.size + 1 := fun e => by
    have h1 := hcut.sta.t4
    rw [e, RR15.out] at h1
    simp at h1
  have n4' : ¬ w.heap.size + 1 = d.T4 := fun e => n4 e.symm
  have nP : ¬ d.P = w.heap.size + 1 := fun e => HRD.out.2.1 e.symm
  have nP' : ¬ w.heap.size + 1 = d.P := fun e => nP e.symm
  clear qf hcut hpb hpl R13 BW13 RR13
  go_upto_region 76 with fail
  go_region
  all_goals (go_wp2_with fail)
  all_goals (
    obtain ⟨W16, hW16⟩ : ∃ W16, W16 = (((W15.setCell ⟨w.heap.size + 1, 0, none⟩ (.int .i64 3000)).setCell ⟨w.heap.size + 1, 1, none⟩ (.slice la ln lc)).setCell ⟨w.heap.size + 1, 2, none⟩ (.int .u32 0)).drew := ⟨_, rfl⟩
    have e1 := heap_setCell_same W15 (w.heap.size + 1) 0 _ _ (.int .i64 3000) RR15.out
    have e2 := heap_setCell_same _ (w.heap.size + 1) 1 _ _ (.slice la ln lc) e1
    have e3 := heap_setCell_same _ (w.heap.size + 1) 2 _ _ (.int .u32 0) e2
    have e4 : W16.heap[w.heap.size + 1]? = some (.cells #[.int .i64 3000, .slice la ln lc, .int .u32 0] 29 (0, 0)) := by rw [hW16]; exact e3
    have TQ := Lib.hid (show TownQ w.heap.size W16 la ln lc from by
      have t0 : TownQ w.heap.size W15 la ln lc := by
        rw [EQ.out.1]
        have h4 := HPL.out.len.1
        obtain ⟨a, h5, -⟩ := GOOD.out.root
        have h6 := List.length_pos_of_mem (R15.out.dyn.sub h5)
        obtain ⟨os, h1, ⟨-, h2, -⟩ | ⟨h2, h7⟩⟩ := id HPL.out
        · omega
        · have h3 := R15.out.dyn.us
          rw [← h1, usedS_os] at h3
          exact ⟨os, h7, h2, by omega⟩
      have t1 := townQ_set W15 la ln lc _ _ (.int .i64 3000) t0 RR15.out 0
      have t2 := townQ_set _ la ln lc _ _ (.slice la ln lc) t1 e1 1
      have t3 := townQ_set _ la ln lc _ _ (.int .u32 0) t2 e2 2
      rw [hW16]
      exact townQ_later _ _ la ln lc t3 (Below.refl _ _).drew)
    have BB := Lib.hid (show Below w.heap.size w W16 from by
      rw [hW16]
      exact (((BW15.out.setCell (p := ⟨w.heap.size + 1, 0, none⟩) (Nat.le_succ _) _).setCell (p := ⟨w.heap.size + 1, 1, none⟩) (Nat.le_succ _) _).setCell (p := ⟨w.heap.size + 1, 2, none⟩) (Nat.le_succ _) _).drew)
    rw [← hW16]
    clear hW16 e1 e2 e3 q0 q1 q2 f0 f1 f2
    refine bodyPost_ret (v := .tuple #[.agg #[.int .i64 3000, .slice la ln lc, .int .u32 0], .int .u64 (d.root : Int)]) (results_row_tmp Tryz.results4 _ _ (w.heap.size + 1) 29 #[.int .i64 3000, .slice la ln lc, .int .u32 0] (0, 0) _ _ rfl rfl e4 Tryz.underlying29 rfl (by kernel_rfl)) rfl ?_
    exact ⟨la, ln, lc, _, rfl, TQ.out, BB.out⟩)
end Go.Proofs.YtibopjjicfiimaaGreatDoor
