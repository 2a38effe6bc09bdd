/- LAW CodeRuns: it returns true whatever the bytes, the counts and the turns that came in; of the tables that lie laid it asks what the card ties. -/
import Derived.Test.YtnajgpefmknmpaaDoorCodeRunP
import Derived.Test.YtnajgpefmknmpaaDoorCodeKeep
import Derived.Test.YtnajgpefmknmpaaDoorCodeOpen
import Derived.Test.YtnajgpefmknmpaaDoorCodeAwake
import Derived.Test.YtnajgpefmknmpaaDoorTie
import Derived.Test.YtnajgpefmknmpaaDoorCards
import Derived.ChangeOld
import Derived.Deep.Cut
import Derived.Deep.CutRange
import Derived.Deep.CutBlock
namespace Go.Proofs.YtnajgpefmknmpaaDoor.codeRuns
open Go.ChangeShapes Go.WideShapes Go.ChangeAt Go.RowKit
set_option linter.unusedVariables false
set_option maxRecDepth 100000 in
set_option maxHeartbeats 4000000 in
theorem walk (v u : Value) (l : List UInt8) (tl : List Bool) (lits slots fields : Int) (w : World) (h : BytesAt w v l) (hu : BoolsAt w u tl) (hT : Lib.TabIs Tryd.prog w "internal/strconv.uint64pow10" .u64 Lib.pow10Tab) :
    Calls Tryd.prog 5 #[v, .agg #[.int .i64 lits, .int .i64 slots, .int .i64 fields], u] w fun e w' => e = .returned (.bool true) ∧ Below w.heap.size w w' := by
  obtain ⟨ip, pi, pz0, pz1, pz2⟩ := info_parts placeInfo
  have g0 : Below w.heap.size w (w.alloc (.cells #[.int .i64 lits, .int .i64 slots, .int .i64 fields] 48)) := (Below.refl _ _).alloc (Nat.le_refl _) _
  have q0 : (w.alloc (.cells #[.int .i64 lits, .int .i64 slots, .int .i64 fields] 48)).heap[w.heap.size]? = some (.cells #[.int .i64 lits, .int .i64 slots, .int .i64 fields] 48 (0, 0)) := heap_alloc_new w _
  have AW := Lib.hid (awake_any _ (tabis_later hT g0))
  have G0 := Lib.hid g0; have Q0 := Lib.hid q0
  have H := Lib.hid h
  have HU := Lib.hid hu
  clear hT g0 q0
  obtain ⟨a, cap1, rfl, hcap, hmx, -, -⟩ := h
  obtain ⟨ua, uc, rfl, huc, hum, -, -⟩ := hu
  unfold maxLen at hmx hum
  generalize htn : tl.length = tn at *
  have HTN := Lib.hid htn; clear htn
  go_enter Tryd.func5, Tryd.ntmps5
  go_upto_if 23 with (go_at_call 7; refine AW.out.mono ?_; rintro en w1 ⟨rfl, hg1⟩; have HG1 := Lib.hid (G0.out.trans (hg1.mono (by simp))); have Q1 := Lib.hid ((hg1.block w.heap.size (by simp)).trans Q0.out); clear hg1)
  generalize hbt : decide ((600 : Int) < (l.length : Int)) = t1
  have HBT := Lib.hid hbt; clear hbt
  go_cut [0] from 24 to 25 (fun s0 wx => wx = w1 ∧ ∃ l', BytesAt w1 s0 l' ∧ l'.length ≤ 600)
  case first =>
    cases t1
    · have hle : l.length ≤ 600 := by have := of_decide_eq_false HBT.out; omega
      have HA := Lib.hid (H.out.later HG1.out)
      have HLE := Lib.hid hle
      clear hle
      go_wp2_with fail
      go_meet
      exact ⟨rfl, l, HA.out, HLE.out⟩
    · have hle : 600 ≤ l.length := by have := of_decide_eq_true HBT.out; omega
      obtain ⟨v', hv', hsl⟩ := (H.out.later HG1.out).head 600 hle
      have hsl2 : ∀ W, (Instr.slice 29 (.slice a l.length cap1) none (some (.int .i64 600)) none).run Tryd.prog W = .ok v' W := hsl
      have HV := Lib.hid hv'
      have HTL := Lib.hid (show (l.take 600).length ≤ 600 by rw [List.length_take]; omega)
      generalize l.length = n at *
      clear hsl hv' hle
      go_wp2_with fail
      go_meet
      exact ⟨rfl, _, HV.out, HTL.out⟩
  case rest =>
    obtain ⟨hwc, m, hM, hM1⟩ := hcut
    obtain rfl := hwc.symm
    have HM := Lib.hid hM
    obtain ⟨ma, mc, hu0, hmc, hmm2, -, -⟩ := hM
    obtain ⟨v0, hv0⟩ : ∃ v0, v0 = u0 := ⟨_, rfl⟩
    rw [← hv0] at hu0 HM ⊢
    clear hv0
    subst hu0
    unfold maxLen at hmm2
    clear HBT H AW G0 Q0
    generalize l.length = n0 at *
    have c0 := cell_of_row w1 _ 0 _ _ _ Q1.out
    have c1 := cell_of_row w1 _ 1 _ _ _ Q1.out
    have c2 := cell_of_row w1 _ 2 _ _ _ Q1.out
    simp at c0 c1 c2
    have hbl := lt_of_cell c0
    have CK := Lib.hid (check_any _ m lits slots fields w1 HM.out (by omega))
    unfold CheckPost at CK
    have RG := Lib.hid (@check_right m ⟨lits, slots, fields⟩)
    generalize (checkM m ⟨lits, slots, fields⟩).1 = mx at *
    generalize (checkM m ⟨lits, slots, fields⟩).2 = er at *
    generalize hmn : m.length = n at *
    have HMN := Lib.hid hmn; clear hmn
    go_wp2_with fail
    refine CK.out.mono ?_
    rintro en w2 ⟨rfl, hg2⟩
    have HU2 := Lib.hid ((HU.out.later HG1.out).later hg2)
    have HM2 := Lib.hid (HM.out.later hg2)
    have BW := Lib.hid (HG1.out.trans (hg2.mono HG1.out.size))
    clear hg2 HM HU HG1 CK c0 c1 c2 hbl Q1
    by_cases he : er = 0
    · subst he
      obtain ⟨dep, R⟩ := RG.out rfl
      have hmx200 := R.le
      obtain ⟨-, -, -, -, hmx0, -⟩ := R.at_ 0 0 R.first
      have HR := Lib.hid R
      clear RG R
      have g3 : Below w2.heap.size w2 (w2.alloc (.cells #[.int .i64 0, .int .i64 0] 53)) := (Below.refl _ _).alloc (Nat.le_refl _) _
      have o3 : OwnsP (w2.alloc (.cells #[.int .i64 0, .int .i64 0] 53)) w2.heap.size (.slice (some ⟨w2.heap.size, 0, none⟩) 1 1) [⟨0, 0⟩] :=
        ⟨rfl, .inr ⟨w2.heap.size, 1, #[.int .i64 0, .int .i64 0], rfl, Nat.le_refl _, heap_alloc_new w2 _, Nat.le_refl _, by unfold maxLen; omega, rfl, rfl⟩⟩
      go_wp2_with fail
      generalize w2.alloc (.cells #[.int .i64 0, .int .i64 0] 53) = w3 at *
      have G3 := Lib.hid g3; have O3 := Lib.hid o3
      clear g3 o3
      generalize hbw : w2.heap.size = bw at *
      have HBW := Lib.hid hbw; clear hbw
      go_loopg [9, 10] 20 (fun g s9 s10 wr => ∃ (k : Nat) (ps : List Pc), g = 20 - k ∧ k ≤ 20 ∧ s10 = .int .i64 k ∧ OwnsP wr bw s9 ps ∧ ps.length ≤ 1 + 300 * k ∧ (∀ p ∈ ps, dep p.at_ = some p.deep) ∧ Below bw w2 wr)
      case atStart => exact ⟨0, _, rfl, by omega, rfl, O3.out, by simp, (fun p hp => by rw [List.mem_singleton] at hp; subst hp; exact HR.out.first), G3.out⟩
      case round =>
        obtain ⟨k, ps, hgk, hk, rfl, hO, hlen, hdp, hB⟩ := hrel
        have HK := Lib.hid hgk; have HO := Lib.hid hO; have HDP := Lib.hid hdp; have HB := Lib.hid hB
        have hs := hB.size
        rw [HBW.out] at hs
        obtain ⟨ga, gc, hgv⟩ := own_shape hO
        have hempty : ps = [] ∨ ∃ ps0 p, ps = ps0 ++ [p] := by
          rcases List.eq_nil_or_concat ps with h | ⟨a, b, h⟩
          · exact Or.inl h
          · exact Or.inr ⟨a, b, by rw [h, List.concat_eq_append]⟩
        clear hgk hO hdp hB
        by_cases hgo : ps ≠ [] ∧ k < 20
        · obtain ⟨hne, hk20⟩ := hgo
          obtain ⟨ps0, p, rfl⟩ := hempty.resolve_left hne
          obtain ⟨pa, pd⟩ := p
          obtain ⟨gw, hga⟩ : ∃ gw, ga = some ⟨gw, 0, none⟩ := by
            rcases HO.out.2 with ⟨hv', h0⟩ | ⟨g, cap, cur, hv', -⟩
            · rw [List.length_append, List.length_singleton] at h0; omega
            · rw [hgv] at hv'; injection hv' with e1; exact ⟨g, e1⟩
          subst hga
          rw [List.length_append, List.length_singleton] at hgv hlen
          have hO2 := HO.out
          rw [hgv] at hO2
          have hd0 : dep pa = some pd := HDP.out ⟨pa, pd⟩ (by simp)
          have HD0 := Lib.hid hd0
          have HDP0 := Lib.hid (fun p (hp : p ∈ ps0) => HDP.out p (by simp [hp]))
          have hlen0 : (ps0 ++ [(⟨pa, pd⟩ : Pc)]).length = ps0.length + 1 := by rw [List.length_append, List.length_singleton]
          obtain ⟨z0, z1⟩ := pcsC_at (ps0 ++ [(⟨pa, pd⟩ : Pc)]) ps0.length (by omega)
          rw [List.getElem_concat_length rfl] at z0 z1
          have hcw : ∀ j u, (pcsC (ps0 ++ [(⟨pa, pd⟩ : Pc)]))[j]? = some u → wr.cell? ⟨gw, j, none⟩ = some u := by
            intro j u hj
            have := hO2.cells (g := gw) rfl j u hj
            rwa [addr_add] at this
          have y0 : wr.cell? ⟨gw, ps0.length * 2, none⟩ = some (.int .i64 pa) := hcw _ _ z0
          have y1 : wr.cell? ⟨gw, ps0.length * 2 + 1, none⟩ = some (.int .i64 pd) := hcw _ _ z1
          have hgwl := lt_of_cell y0
          have hcap2 : ps0.length + 1 ≤ gc := by
            rcases hO2.2 with ⟨hv', -⟩ | ⟨g, cap, cur, hv', -, -, hn', -⟩
            · cases hv'
            · injection hv' with e1 e2 e3; rw [hlen0] at hn'; omega
          have hsl := pslice_pop gw ps0.length gc hcap2
          have HOP := Lib.hid (pown_pop hO2 rfl)
          clear z0 z1 hcw hO2 hne hlen0 hd0
          rw [hgv]
          clear hgv
          generalize hm : ps0.length = m0 at *
          have HMM := Lib.hid hm; clear hm
          have hmb : 2 * m0 ≤ 1000000 := by omega
          go_upto_block 1 with fail
          generalize hkb : decide ((k : Int) < 20) = kb at *
          clear hkb
          go_cut [6, 9, 11, 12, 13, 14, 15, 16, 17, 18] from 50 to 174 (fun s6 s9 s11 s12 s13 s14 s15 s16 s17 s18 wx => ∃ ps', OwnsP wx bw s9 ps' ∧ ps'.length ≤ 1 + 300 * (k + 1) ∧ (∀ p ∈ ps', dep p.at_ = some p.deep) ∧ Below bw w2 wx)
          case first =>
            go_upto_block 2 with fail
            have gA : Below wr.heap.size wr (wr.alloc (.cells #[.int .i64 pa, .int .i64 pd] 53)) := (Below.refl _ _).alloc (Nat.le_refl _) _
            have qA : (wr.alloc (.cells #[.int .i64 pa, .int .i64 pd] 53)).heap[wr.heap.size]? = some (.cells #[.int .i64 pa, .int .i64 pd] 53 (0, 0)) := heap_alloc_new wr _
            generalize wr.alloc (.cells #[.int .i64 pa, .int .i64 pd] 53) = w4 at *
            have HOA := Lib.hid (show OwnsP w4 bw _ ps0 from owns_later HOP.out gA)
            have B4 := Lib.hid (HB.out.trans (gA.mono hs))
            have QA := Lib.hid qA
            clear gA qA y0 y1 hsl
            generalize wr.heap.size = bp at *
            go_wp2_with fail
            go_loopg [9, 12] 300 (fun g s9 s12 wx => ∃ (j : Nat) (qs : List Pc) (xa xd : Int), g = 300 - j ∧ j ≤ 300 ∧ s12 = .int .i64 j ∧ OwnsP wx bw s9 qs ∧ s9.ownBlock ≠ some bp ∧ qs.length ≤ m0 + j ∧ (∀ p ∈ qs, dep p.at_ = some p.deep) ∧ wx.heap[bp]? = some (.cells #[.int .i64 xa, .int .i64 xd] 53 (0, 0)) ∧ dep xa = some xd ∧ Below bw w2 wx)
            case atStart => exact ⟨0, ps0, pa, pd, rfl, by omega, rfl, HOA.out, (by simp [Value.ownBlock]; omega), (by rw [HMM.out]; omega), HDP0.out, QA.out, HD0.out, B4.out⟩
            case round =>
              obtain ⟨j, qs, xa, xd, hgj, hj, rfl, hO, hne, hqs, hdq, hbx, hdx, hB⟩ := hrel
              have HJ := Lib.hid hgj; have HQ := Lib.hid hO; have HNE := Lib.hid hne; have HDQ := Lib.hid hdq; have HB2 := Lib.hid hB
              have hsx := hB.size
              rw [HBW.out] at hsx
              by_cases hlt : j < 300
              · obtain ⟨kk, hkk, hkl, hde, hdm, ht1, ht2, hnx⟩ := HR.out.at_ xa xd hdx
                subst hkk
                have y0 : wr.cell? ⟨bp, 0, none⟩ = some (.int .i64 (kk : Int)) := cell_of_row wr bp 0 _ _ _ hbx
                have y1 : wr.cell? ⟨bp, 1, none⟩ = some (.int .i64 xd) := cell_of_row wr bp 1 _ _ _ hbx
                have hbpl := lt_of_cell y0
                obtain ⟨c, hc20, -, ho, hp, hple, -, -⟩ := dec_ok hkl hde
                obtain ⟨ra1, ra2, rb1, rb2⟩ := dec_range hkl hde
                have hfb := flow_bd (decI m kk).1 ⟨rb1, rb2⟩
                have D := Lib.hid (show Calls Tryd.prog 12 #[.slice ma n mc, .int .i64 (kk : Int)] wr fun e w' => e = .returned (.tuple #[.agg #[.int .i64 (decI m kk).1.op, .int .i64 (decI m kk).1.a, .int .i64 (decI m kk).1.b], .int .i64 (decI m kk).2.1, .int .i64 (decI m kk).2.2]) ∧ Below wr.heap.size wr w' from dec_any _ m kk wr (HM2.out.later (by rw [HBW.out]; exact hB)) (by rw [HMN.out]; omega))
                rw [hde] at D
                have hq0 : 0 ≤ (decI m kk).2.1 ∧ (decI m kk).2.1 ≤ 100000 := by rw [hp]; have := HMN.out; omega
                have HNX := Lib.hid hnx
                unfold nexts at HNX
                have HFL := Lib.hid (show flowM (decI m kk).1 = ((flowM (decI m kk).1).1, (flowM (decI m kk).1).2) from rfl)
                clear hnx hp hde hgj hO hne hdq hB
                generalize (flowM (decI m kk).1).1 = ft at *
                generalize (flowM (decI m kk).1).2 = fp at *
                generalize (decI m kk).2.1 = q at *
                generalize (decI m kk).1 = x at *
                obtain ⟨xo, ya, xb⟩ := x
                simp only at ho ra1 ra2 rb1 rb2 D HNX HFL
                have hxo : 0 ≤ xo ∧ xo ≤ 19 := by omega
                clear ho
                have e1 : decide (mx < xd) = false := by simp; omega
                have N1 := Lib.hid (fun (hh : jumpsB ⟨xo, ya, xb⟩ = true) => HNX.out (q + ya) _ (Or.inl ⟨hh, rfl, rfl⟩))
                have N2 := Lib.hid (fun (hh : xo = 17) => HNX.out q ya (Or.inr (Or.inl ⟨hh, rfl, rfl⟩)))
                have N3 := Lib.hid (fun (h14 : xo ≠ 14) (h18 : xo ≠ 18) (h19 : xo ≠ 19) => HNX.out _ _ (Or.inr (Or.inr ⟨h14, h18, h19, rfl, rfl⟩)))
                clear HNX
                have HBX := Lib.hid hbx
                go_wp2_with fail
                refine D.out.mono ?_
                rintro en w5 ⟨rfl, hg5⟩
                have g6 : Below wr.heap.size wr (w5.alloc (.cells #[.int .i64 xo, .int .i64 ya, .int .i64 xb] 27)) := hg5.alloc hg5.size _
                have qx : (w5.alloc (.cells #[.int .i64 xo, .int .i64 ya, .int .i64 xb] 27)).heap[w5.heap.size]? = some (.cells #[.int .i64 xo, .int .i64 ya, .int .i64 xb] 27 (0, 0)) := heap_alloc_new w5 _
                have b6 := (g6.block bp hbpl).trans HBX.out
                have hs56 : bp < w5.heap.size := Nat.lt_of_lt_of_le hbpl hg5.size
                clear y0 y1 hbx
                have G6 := Lib.hid g6; have QX := Lib.hid qx; have B6 := Lib.hid b6
                clear g6 qx b6 hg5
                go_upto_region 18 with fail
                generalize hjb : decide ((j : Int) < 300) = jb at *
                clear hjb
                generalize w5.alloc (.cells #[.int .i64 xo, .int .i64 ya, .int .i64 xb] 27) = w6 at *
                generalize w5.heap.size = bx at *
                have BB6 := Lib.hid (HB2.out.trans (G6.out.mono hsx))
                have Q6 := Lib.hid (show OwnsP w6 bw u9 qs from owns_later HQ.out G6.out)
                have y0 := cell_of_row w6 bp 0 _ _ _ B6.out
                have y1 := cell_of_row w6 bp 1 _ _ _ B6.out
                have x0 := cell_of_row w6 bx 0 _ _ _ QX.out
                have x1 := cell_of_row w6 bx 1 _ _ _ QX.out
                have x2 := cell_of_row w6 bx 2 _ _ _ QX.out
                simp at y0 y1 x0 x1 x2
                have hbp6 := lt_of_cell y0
                have hbx6 := lt_of_cell x0
                have fz : w6.frozen? ⟨bp, 1, none⟩ = false := by unfold World.frozen?; rw [B6.out]; rfl
                go_upto_block 4 with fail
                go_cut [16, 17] from 83 to 101 (fun s16 s17 wy => wy = w6 ∧ s16 = .int .i64 ft ∧ s17 = .int .i64 fp)
                case first =>
                  have hf := HFL.out
                  clear N1 N2 N3 ht1 ht2 hfb hqs
                  obtain rfl | rfl | rfl | rfl | rfl | rfl | rfl | rfl | rfl | rfl | rfl | rfl | rfl | rfl | rfl | rfl | rfl | rfl | rfl | rfl : xo = 0 ∨ xo = 1 ∨ xo = 2 ∨ xo = 3 ∨ xo = 4 ∨ xo = 5 ∨ xo = 6 ∨ xo = 7 ∨ xo = 8 ∨ xo = 9 ∨ xo = 10 ∨ xo = 11 ∨ xo = 12 ∨ xo = 13 ∨ xo = 14 ∨ xo = 15 ∨ xo = 16 ∨ xo = 17 ∨ xo = 18 ∨ xo = 19 := by omega
                  all_goals
                    simp [flowM] at hf
                    obtain ⟨rfl, rfl⟩ := hf
                    go_wp2_with fail
                    go_meet
                    exact ⟨rfl, rfl, rfl⟩
                case rest =>
                obtain ⟨hwc2, h16, h17⟩ := hcut
                obtain rfl := hwc2.symm
                subst h16 h17
                have e2 : decide (xd < ft) = false := by simp; omega
                have e3 : decide (mx < xd + (fp - ft)) = false := by simp; omega
                go_upto_region 41 with fail
                have hbne : bx ≠ bp := by omega
                have b7 := Lib.hid (show (w6.setCell ⟨bp, 1, none⟩ (.int .i64 (xd + (fp - ft)))).heap[bp]? = some (.cells #[.int .i64 (kk : Int), .int .i64 (xd + (fp - ft))] 53 (0, 0)) by rw [heap_setCell_same _ _ _ _ _ _ B6.out]; rfl)
                have qx7 := Lib.hid (show (w6.setCell ⟨bp, 1, none⟩ (.int .i64 (xd + (fp - ft)))).heap[bx]? = some (.cells #[.int .i64 xo, .int .i64 ya, .int .i64 xb] 27 (0, 0)) from (Below.heap_setCell _ _ _ _ hbne).trans QX.out)
                have BB7 := Lib.hid (BB6.out.setCell (p := ⟨bp, 1, none⟩) hs (.int .i64 (xd + (fp - ft))))
                have Q7 := Lib.hid (show OwnsP (w6.setCell ⟨bp, 1, none⟩ (.int .i64 (xd + (fp - ft)))) bw u9 qs from ownsRow_setCell_other Q6.out HNE.out _)
                generalize w6.setCell ⟨bp, 1, none⟩ (.int .i64 (xd + (fp - ft))) = w7 at *
                generalize hnd : xd + (fp - ft) = nd at *
                have hnd2 : xd - ft + fp = nd := by omega
                rw [hnd2] at N1 N3
                clear hnd hnd2 y0 y1 x0 x1 x2 fz e2 e1
                have y0 := cell_of_row w7 bp 0 _ _ _ b7.out
                have y1 := cell_of_row w7 bp 1 _ _ _ b7.out
                have x0 := cell_of_row w7 bx 0 _ _ _ qx7.out
                have x1 := cell_of_row w7 bx 1 _ _ _ qx7.out
                have x2 := cell_of_row w7 bx 2 _ _ _ qx7.out
                simp at y0 y1 x0 x1 x2
                have hbp7 := lt_of_cell y0
                have hbx7 := lt_of_cell x0
                by_cases hbk : xo = 18 ∨ xo = 19
                · rcases hbk with rfl | rfl
                  all_goals
                    go_wp2_with fail
                    go_meet
                    exact ⟨qs, Q7.out, by omega, HDQ.out, BB7.out⟩
                · have n18 : xo ≠ 18 := fun h => hbk (Or.inl h)
                  have n19 : xo ≠ 19 := fun h => hbk (Or.inr h)
                  have o18 : (xo == 18) = false := by simpa using n18
                  have o19 : (xo == 19) = false := by simpa using n19
                  have hzb : -200000 ≤ q + (if xo = 17 then xb else 0) ∧ q + (if xo = 17 then xb else 0) ≤ 200000 := by split <;> omega
                  clear hbk
                  go_upto_if 127 with fail
                  generalize hb17 : (xo == 17) = b17 at *
                  have HB17 := Lib.hid hb17; clear hb17
                  go_cut [9, 14] from 128 to 138 (fun s9 s14 wy => ∃ qs', OwnsP wy bw s9 qs' ∧ s9.ownBlock ≠ some bp ∧ qs'.length ≤ m0 + (j + 1) ∧ (∀ p ∈ qs', dep p.at_ = some p.deep) ∧ s14 = .int .i64 (q + (if xo = 17 then xb else 0)) ∧ wy.heap[bp]? = some (.cells #[.int .i64 (kk : Int), .int .i64 nd] 53 (0, 0)) ∧ wy.heap[bx]? = some (.cells #[.int .i64 xo, .int .i64 ya, .int .i64 xb] 27 (0, 0)) ∧ Below bw w2 wy)
                  case first =>
                    cases b17
                    rotate_left
                    · have HX17 := Lib.hid (show xo = 17 by simpa using HB17.out)
                      have hdq := N2.out HX17.out
                      have HD2 := Lib.hid hdq
                      clear hdq
                      have hs7 : bw ≤ w7.heap.size := by omega
                      have A1 := Lib.hid (show ∀ j u, ([.int .i64 q, .int .i64 ya] : List Value)[j]? = some u → (w7.alloc (.cells #[.int .i64 q, .int .i64 ya] 53)).cell? ((⟨w7.heap.size, 0, none⟩ : Addr).add j) = some u by
                        intro j u hj
                        match j, hj with
                        | 0, hj => simp at hj; subst hj; simp [Addr.add]
                        | 1, hj => simp at hj; subst hj; simp [Addr.add])
                      have A2 := Lib.hid (show ∀ u ∈ ([.int .i64 q, .int .i64 ya] : List Value), u.oneCell' = true by intro u hu; simp at hu; rcases hu with rfl | rfl <;> rfl)
                      have A3 := Lib.hid (show qs.length + 1 ≤ maxLen by unfold maxLen; omega)
                      have A4 := Lib.hid (show (qs.length + 1) * 16 ≤ 140737488355328 by omega)
                      have A5 := Lib.hid (show bw ≤ (w7.alloc (.cells #[.int .i64 q, .int .i64 ya] 53)).heap.size by simp; omega)
                      go_wp2_with (at_builtin; go_loud (refine wpList_append_put _ rfl _ _ 54 rfl bw 53 ip (.agg #[.int .i64 0, .int .i64 0]) 2 16 Tryd.underlying54 pi pz0 pz1 pz2 rfl (by decide) u9 qs.length (pcsC qs) rfl (Q7.out.alloc _) ⟨w7.heap.size, 0, none⟩ 1 1 (by decide) [.int .i64 q, .int .i64 ya] rfl rfl A1.out A2.out A3.out A4.out A5.out ?_))
                      intro v' w8 hown' hgr hrc
                      have hal := (Below.refl w7.heap.size w7).alloc (Nat.le_refl _) (.cells #[.int .i64 q, .int .i64 ya] 53)
                      have q8 : OwnsP w8 bw v' (qs ++ [⟨q, ya⟩]) := ownsP_push hown'
                      have b8 := (hgr.block bp (by simp; omega) (fun e => HNE.out e.symm)).trans ((hal.block bp hbp7).trans b7.out)
                      have qx8 := (hgr.block bx (by simp; omega) (fun e => own_ne_cells Q7.out qx7.out (by decide) e.symm)).trans ((hal.block bx hbx7).trans qx7.out)
                      have hne8 : v'.ownBlock ≠ some bp := by
                        rcases hrc with h | ⟨g, h, hg⟩
                        · rw [h]; exact HNE.out
                        · rw [h]; intro e; injection e with e; simp at hg; omega
                      have bb8 := BB7.out.trans (Below.grown ((Below.refl bw w7).alloc hs7 (.cells #[.int .i64 q, .int .i64 ya] 53)) hgr (by simp; omega) (fun q hq => (Q7.out.lt q hq).1))
                      have Q8 := Lib.hid q8; have B8 := Lib.hid b8; have QX8 := Lib.hid qx8; have HN8 := Lib.hid hne8; have BB8 := Lib.hid bb8
                      clear hown' hgr hrc hal q8 b8 qx8 hne8 bb8 y0 y1 x0 x1 x2
                      have x2 := cell_of_row w8 bx 2 _ _ _ QX8.out
                      simp at x2
                      have hbx8 := lt_of_cell x2
                      go_wp2_with fail
                      go_meet
                      refine ⟨qs ++ [⟨q, ya⟩], Q8.out, HN8.out, by rw [List.length_append, List.length_singleton]; omega, (fun p hp => ?_), by rw [if_pos HX17.out], B8.out, QX8.out, BB8.out⟩
                      rcases List.mem_append.1 hp with hp | hp
                      · exact HDQ.out p hp
                      · rw [List.mem_singleton] at hp; subst hp; exact HD2.out
                    · have hx17 : xo ≠ 17 := by simpa using HB17.out
                      have hz17 : q + (if xo = 17 then xb else 0) = q := by rw [if_neg hx17, Int.add_zero]
                      have HZ17 := Lib.hid hz17
                      clear hzb hz17
                      go_wp2_with fail
                      go_meet
                      exact ⟨qs, Q7.out, HNE.out, by omega, HDQ.out, by rw [HZ17.out], b7.out, qx7.out, BB7.out⟩
                  case rest =>
                  obtain ⟨qs', k1, k2, k3, k4, h14, k5, k6, k7⟩ := hcut
                  obtain ⟨w8, hw8⟩ : ∃ y, y = wc := ⟨_, rfl⟩
                  rw [← hw8] at k1 k5 k6 k7 ⊢
                  clear hw8
                  subst h14
                  have J1 := Lib.hid (fun (hh : xo = 14 ∨ xo = 15 ∨ xo = 16) => show dep (q + (if xo = 17 then xb else 0) + ya) = some nd by
                    rw [if_neg (by omega), Int.add_zero]; exact N1.out (by unfold jumpsB; simp; omega))
                  have J3 := Lib.hid (fun (h14 : xo ≠ 14) => show dep (q + (if xo = 17 then xb else 0)) = some nd from N3.out h14 n18 n19)
                  generalize q + (if xo = 17 then xb else 0) = z8 at *
                  have K1 := Lib.hid k1; have K2 := Lib.hid k2; have K4 := Lib.hid k4; have K5 := Lib.hid k5; have K6 := Lib.hid k6; have K7 := Lib.hid k7
                  clear k1 k2 k4 k5 k6 k7 y0 y1 x0 x1 x2 N1 N2 N3 o18 o19
                  have y0 := cell_of_row w8 bp 0 _ _ _ K5.out
                  have x0 := cell_of_row w8 bx 0 _ _ _ K6.out
                  have x1 := cell_of_row w8 bx 1 _ _ _ K6.out
                  simp at y0 x0 x1
                  have hbp8 := lt_of_cell y0
                  have hbx8 := lt_of_cell x0
                  have fz0 : w8.frozen? ⟨bp, 0, none⟩ = false := by unfold World.frozen?; rw [K5.out]; rfl
                  go_upto_region 47 with fail
                  go_cut [18] from 139 to 152 (fun s18 wy => wy = w8 ∧ ∃ b, s18 = .bool b)
                  case first =>
                    clear e3
                    by_cases htl : tl = []
                    · obtain rfl : tn = 0 := by have := HTN.out; rw [htl] at this; exact this.symm
                      clear htl
                      go_wp2_with fail
                      go_meet
                      exact ⟨rfl, _, rfl⟩
                    · have hpos : 0 < tn := by rw [← HTN.out]; exact List.length_pos_iff.2 htl
                      have hix : (j + k) % tn < tn := Nat.mod_lt _ hpos
                      have hixl : (j + k) % tn < tl.length := by rw [HTN.out]; exact hix
                      have hu8 := HU2.out.later (by rw [HBW.out]; exact K7.out)
                      obtain ⟨ua', uc', hue, -, -, hrow, -⟩ := hu8
                      simp only [Value.slice.injEq] at hue
                      obtain ⟨rfl, -, rfl⟩ := hue
                      rcases hrow with hrow | ⟨ub, uo, hua, hcs⟩
                      · exact absurd (by simpa using hrow) htl
                      · subst hua
                        have hcell : w8.cell? ⟨ub, uo + (j + k) % tn, none⟩ = some (.bool (tl[(j + k) % tn])) := by
                          rw [hcs _ (by simpa using hixl)]; simp [hixl]
                        have hubl := lt_of_cell hcell
                        have hixz : ((j : Int) + (k : Int)) % (tn : Int) = (((j + k) % tn : Nat) : Int) := by push_cast; rfl
                        clear hcs htl
                        generalize tl[(j + k) % tn] = bb at *
                        clear hixl
                        generalize (j + k) % tn = ix at *
                        go_wp2_with fail
                        go_meet
                        exact ⟨rfl, _, rfl⟩
                  case rest =>
                  obtain ⟨hwc3, bb, h18⟩ := hcut
                  obtain rfl := hwc3.symm
                  subst h18
                  go_upto_region 48 with fail
                  go_cut [168] from 153 to 167 (fun s168 wy => wy = w8 ∧ ∃ t, s168 = .bool t ∧ (t = true → dep (z8 + ya) = some nd) ∧ (t = false → dep z8 = some nd))
                  case first =>
                    clear e3
                    by_cases h14 : xo = 14
                    · have hd := J1.out (Or.inl h14)
                      have HD3 := Lib.hid hd
                      clear hd J1 J3
                      subst h14
                      go_wp2_with fail
                      go_meet
                      exact ⟨rfl, true, rfl, fun _ => HD3.out, fun h => by cases h⟩
                    · have o14 : (xo == 14) = false := by simpa using h14
                      by_cases h15 : xo = 15 ∨ xo = 16
                      · have HD3 := Lib.hid (J1.out (Or.inr h15))
                        have HD4 := Lib.hid (J3.out h14)
                        clear J1 J3
                        rcases h15 with rfl | rfl
                        all_goals
                          cases bb
                          · go_wp2_with fail
                            go_meet
                            exact ⟨rfl, false, rfl, (fun h => by cases h), fun _ => HD4.out⟩
                          · go_wp2_with fail
                            go_meet
                            exact ⟨rfl, true, rfl, fun _ => HD3.out, fun h => by cases h⟩
                      · have HD4 := Lib.hid (J3.out h14)
                        have o15 : (xo == 15) = false := by simp; omega
                        have o16 : (xo == 16) = false := by simp; omega
                        clear J1 J3
                        cases bb
                        · go_wp2_with fail
                          go_meet
                          exact ⟨rfl, false, rfl, (fun h => by cases h), fun _ => HD4.out⟩
                        · go_wp2_with fail
                          go_meet
                          exact ⟨rfl, false, rfl, (fun h => by cases h), fun _ => HD4.out⟩
                  case rest =>
                  obtain ⟨hwc4, tt, h168, htt1, htt2⟩ := hcut
                  obtain rfl := hwc4.symm
                  subst h168
                  clear J1 J3
                  cases tt
                  · have HZ9 := Lib.hid (htt2 rfl)
                    have B9 := Lib.hid (show (w8.setCell ⟨bp, 0, none⟩ (.int .i64 z8)).heap[bp]? = some (.cells #[.int .i64 z8, .int .i64 nd] 53 (0, 0)) by rw [heap_setCell_same _ _ _ _ _ _ K5.out]; rfl)
                    have BB9 := Lib.hid (K7.out.setCell (p := ⟨bp, 0, none⟩) hs (.int .i64 z8))
                    have Q9 := Lib.hid (show OwnsP (w8.setCell ⟨bp, 0, none⟩ (.int .i64 z8)) bw _ qs' from ownsRow_setCell_other K1.out K2.out _)
                    clear htt1 htt2
                    go_wp2_with fail
                    go_roundg (300 - (j + 1))
                    case measure => rw [HJ.out]; omega
                    case rel => exact ⟨j + 1, qs', z8, nd, rfl, by omega, by go_num, Q9.out, K2.out, k3, K4.out, B9.out, HZ9.out, BB9.out⟩
                  · have HZ9 := Lib.hid (htt1 rfl)
                    have B9 := Lib.hid (show (w8.setCell ⟨bp, 0, none⟩ (.int .i64 (z8 + ya))).heap[bp]? = some (.cells #[.int .i64 (z8 + ya), .int .i64 nd] 53 (0, 0)) by rw [heap_setCell_same _ _ _ _ _ _ K5.out]; rfl)
                    have BB9 := Lib.hid (K7.out.setCell (p := ⟨bp, 0, none⟩) hs (.int .i64 (z8 + ya)))
                    have Q9 := Lib.hid (show OwnsP (w8.setCell ⟨bp, 0, none⟩ (.int .i64 (z8 + ya))) bw _ qs' from ownsRow_setCell_other K1.out K2.out _)
                    clear htt1 htt2
                    go_wp2_with fail
                    go_roundg (300 - (j + 1))
                    case measure => rw [HJ.out]; omega
                    case rel => exact ⟨j + 1, qs', z8 + ya, nd, rfl, by omega, by go_num, Q9.out, K2.out, k3, K4.out, B9.out, HZ9.out, BB9.out⟩
              · obtain rfl : j = 300 := by omega
                go_wp2_with fail
                go_meet
                exact ⟨qs, HQ.out, by omega, HDQ.out, HB2.out⟩
          case rest =>
            obtain ⟨ps', k1, k2, k3, k4⟩ := hcut
            have K1 := Lib.hid k1; have K3 := Lib.hid k3; have K4 := Lib.hid k4
            clear k1 k3 k4
            go_wp2_with fail
            go_roundg (20 - (k + 1))
            case measure => rw [HK.out]; omega
            case rel => exact ⟨k + 1, ps', rfl, by omega, by go_num, K1.out, k2, K3.out, K4.out⟩
        · have h0 : ps = [] ∨ k = 20 := by
            rcases hempty with h | ⟨a, b, h⟩
            · exact Or.inl h
            · right
              have : ps ≠ [] := by rw [h]; simp
              have : ¬ k < 20 := fun h => hgo ⟨this, h⟩
              omega
          have HX := Lib.hid (BW.out.trans ((show Below bw w2 wr from HB.out).mono (by rw [← HBW.out]; exact BW.out.size)))
          clear hgo hempty
          rcases h0 with rfl | rfl
          · have hgv' : u9 = .slice ga 0 gc := hgv
            subst hgv'
            go_wp2_with fail
            go_ret
            exact ⟨rfl, HX.out⟩
          · rw [hgv]
            have hlen2 : ps.length ≤ 10000 := by omega
            generalize ps.length = pn at *
            by_cases hp0 : pn = 0
            · subst hp0
              go_wp2_with fail
              go_ret
              exact ⟨rfl, HX.out⟩
            · have hpp : 0 < pn := by omega
              clear hp0 hgv
              go_wp2_with fail
              go_ret
              exact ⟨rfl, HX.out⟩
    · have he1 : (er == 0) = false := by simpa using he
      have he2 : (er != 0) = true := by simpa using he
      go_wp2_with fail
      go_ret
      exact ⟨rfl, BW.out⟩
theorem own : ownKnob Tryd.prog.godebug = none := by kernel_rfl
theorem laidOut : laidOutB Tryd.prog = true := by kernel_rfl
set_option maxRecDepth 100000 in
theorem lifted (os : Os) (started : os.Started) (H : Type) (enc : TypeId × Value → H) :
    ReturnsInHanded {} Tryd.checked os 5 .any (fun w args => (Rows.codeRunsSpec.pre enc Tryd.prog Tryd.f5 Rows.codeRunsRow.domain false w args ∧ laidMet Tryd.prog Rows.codeRunsRow.laid w) ∧ sizedMet enc Tryd.prog Tryd.f5 (OpenSpec.ofChange Rows.codeRunsSpec) false w args)
      (Rows.codeRunsSpec.post enc Tryd.prog Tryd.f5 false true false false) := by
  refine returnsInHanded_of_change_and (C := Tryd.checked) (X := fun w _ => laidMet Tryd.prog Rows.codeRunsRow.laid w) (fun _ _ _ hh h => h.of_heap hh) own started (by kernel_rfl) Tryd.func5
    (ChangeSpec.witness_at (enc := enc) (C := Tryd.checked) (os := os) (X := fun w _ => laidMet Tryd.prog Rows.codeRunsRow.laid w) false (laidWorld os) #[.slice none 0 0, .agg #[.int .i64 0, .int .i64 0, .int .i64 0], .slice none 0 0] 8 rfl (by kernel_rfl) (by kernel_rfl) (by kernel_rfl) (by kernel_rfl) (by kernel_rfl) (laid_met os _)) ?_
  intro W base args ds gs before hval0 hW hcnd hsz0 hL _
  have hval : ∀ (j : Nat) t v, Tryd.f5.params[j]? = some t → args[j]? = some v → Value.okWide Tryd.prog W .any base t v := hval0
  have hW' := hW
  obtain ⟨p, q, hA0, hV, rfl, hfz, hnd⟩ := hW
  have hA : DataW.TrodAll enc Tryd.prog W 0 (fun _ => true) true Tryd.f5.params.toList args.toList ds p := hA0
  rw [Tryd.params5] at hA hval
  obtain ⟨v0, vs0, d0, ds0, p0, q0, hargs, rfl, rfl, h0, r0⟩ := trodAll_cons hA
  obtain ⟨v1, vs1, d1, ds1, p1, q1, rfl, rfl, rfl, h1, r1⟩ := trodAll_cons r0
  obtain ⟨v2, vs2, d2, ds2, p2, q2, rfl, rfl, rfl, h2, r2⟩ := trodAll_cons r1
  obtain ⟨rfl, rfl, rfl⟩ := trodAll_nil r2
  obtain rfl : args = #[v0, v1, v2] := by cases args; simp_all
  obtain ⟨rfl, rfl⟩ := trodVars_none hV
  have k0 := h0
  have lt0 : ∀ x ∈ p0, x.block < W.heap.size := by obtain ⟨m, hm⟩ := k0; exact DataW.trod_lt m _ _ _ hm
  have k1 := h1
  have lt1 : ∀ x ∈ p1, x.block < W.heap.size := by obtain ⟨m, hm⟩ := k1; exact DataW.trod_lt m _ _ _ hm
  have k2 := h2
  have lt2 : ∀ x ∈ p2, x.block < W.heap.size := by obtain ⟨m, hm⟩ := k2; exact DataW.trod_lt m _ _ _ hm
  obtain ⟨l, hl⟩ := open_bytes (hval 0 29 v0 rfl rfl) h0
  obtain ⟨x, y, z, rfl, -, -, -⟩ := open_world (hval 1 48 v1 rfl rfl) h1
  obtain ⟨tl, htl⟩ := open_bools (hval 2 49 v2 rfl rfl) h2
  have hT := tab_of_laid hL
  clear hA0 hval0
  refine (walk v0 v2 l tl x y z W hl htl hT).mono fun e W' ⟨he, bel⟩ => ?_
  subst he
  exact ⟨_, rfl, _, _, _, [], _, [], hW', trodAll_mk1 (shut_bool Tryd.underlying4 _), (trodAll_cons_mk (Below.trod laidOut (by kernel_rfl) (of_decide_eq_true (by kernel_rfl)) k0 bel lt0) (trodAll_cons_mk (Below.trod laidOut (by kernel_rfl) (of_decide_eq_true (by kernel_rfl)) k1 bel lt1) (trodAll_cons_mk (Below.trod laidOut (by kernel_rfl) (of_decide_eq_true (by kernel_rfl)) k2 bel lt2) trodAll_mk0))), rfl, bel.frame _, fun h => by cases h⟩
theorem over : Rows.codeRunsRow.holds Tryd.pinned (OpenSpec.ofChange Rows.codeRunsSpec) :=
  OpenClaim.holds_of_wide 5 Tryd.f5 rfl rfl rfl rfl rfl rfl rfl ⟨rfl, rfl, rfl, rfl, rfl⟩ rfl rfl rfl rfl rfl (by kernel_rfl) Tryd.func5 (by kernel_rfl)
    (of_decide_eq_true (by kernel_rfl)) (by unfold Func.isWrapper; rw [if_neg (by decide +kernel)]; exact ⟨rfl, rfl⟩)
    (fun os started H enc _ => lifted os started H enc)
theorem proved : Rows.CodeRunsCardSaid :=
  Claim7.holds_tied_plain_at .later [] [.data, .data, .data] true (true, "d7c8e61464f1694cb5dba5bc2a5b84bdbbfecf7e2eafed13dcf4db7bf58ed3fa") false
    over (fun _ h => by cases h) (by kernel_rfl) (fun _ h => by cases h) codeRuns_row_tie rfl ⟨rfl, rfl⟩ (by kernel_rfl) rfl
    (fun f fn hf hfn => by
      obtain rfl : f = 5 := Option.some.inj ((show Tryd.prog.funcNamed "foundling/foundlinglaw14.CodeRuns" = some 5 by kernel_rfl).symm.trans hf) |>.symm
      obtain rfl : fn = Tryd.f5 := (Option.some.inj (Tryd.func5.symm.trans hfn)).symm
      exact ⟨by kernel_rfl, fun j t ht => by
        have hall : (Tryd.f5.params.all fun t => !Tryd.prog.wantsStandIn t) = true := by kernel_rfl
        rw [Array.all_eq_true_iff_forall_mem] at hall
        have := hall t (Array.mem_of_getElem? ht)
        show Tryd.prog.wantsStandIn t = false
        simpa using this⟩)
    (by kernel_rfl)
end Go.Proofs.YtnajgpefmknmpaaDoor.codeRuns
