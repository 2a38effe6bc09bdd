/- LAW CodeJoins: it returns true whatever the instructions that came in; of the tables that lie laid it asks what the card ties. -/
import Derived.Test.YtnajgpefmknmpaaDoorCodeJoinP
import Derived.Test.YtnajgpefmknmpaaDoorTie
import Derived.Test.YtnajgpefmknmpaaDoorCards
import Derived.ChangeOld
import Derived.Deep.Cut
import Derived.Deep.CutRange
import Derived.Deep.CutBlock
namespace Go.Proofs.YtnajgpefmknmpaaDoor.codeJoins
open Go.ChangeShapes Go.WideShapes Go.ChangeAt Go.RowKit
set_option linter.unusedVariables false
set_option maxRecDepth 100000 in
set_option maxHeartbeats 1600000 in
theorem walk (v vb : Value) (L Lb : List Ins) (w : World) (h : InsAt w v L) (hb : InsAt w vb Lb) (hT : Lib.TabIs Tryd.prog w "internal/strconv.uint64pow10" .u64 Lib.pow10Tab) :
    Calls Tryd.prog 6 #[v, vb] w fun e w' => e = .returned (.bool true) ∧ Below w.heap.size w w' := by
  obtain ⟨i4, ji, jz0, jz1, jz2⟩ := info_parts insInfo
  have AW := Lib.hid (awake_any w hT)
  have HTB := Lib.hid hT
  have H := Lib.hid h
  have Hb := Lib.hid hb
  clear hT
  obtain ⟨a, cap1, rfl, hcap, hmx, -, -⟩ := h
  obtain ⟨ab, cap2, rfl, hcapb, hmxb, -, -⟩ := hb
  unfold maxLen at hmx hmxb
  go_enter Tryd.func6, Tryd.ntmps6
  go_upto_if 26 with (go_at_call 7; refine AW.out.mono ?_; rintro en w1 ⟨rfl, hg1⟩; have HG1 := Lib.hid hg1; clear hg1)
  generalize hbt : decide ((60 : Int) < (L.length : Int)) = t1
  have HBT := Lib.hid hbt; clear hbt
  go_cut [0] from 27 to 28 (fun s0 wx => wx = w1 ∧ ∃ L', InsAt w1 s0 L' ∧ L'.length ≤ 60)
  case first =>
    cases t1
    · have hle : L.length ≤ 60 := by have := of_decide_eq_false HBT.out; omega
      have HA := Lib.hid (H.out.later HG1.out)
      have HLE := Lib.hid hle
      clear hle
      go_wp2_with fail
      go_meet
      exact ⟨rfl, L, HA.out, HLE.out⟩
    · have hle : 60 ≤ L.length := by have := of_decide_eq_true HBT.out; omega
      obtain ⟨v', hv', hsl⟩ := (H.out.later HG1.out).head 60 hle
      have hsl2 : ∀ W, (Instr.slice 22 (.slice a L.length cap1) none (some (.int .i64 60)) none).run Tryd.prog W = .ok v' W := hsl
      have HV := Lib.hid hv'
      have HTL := Lib.hid (show (L.take 60).length ≤ 60 by rw [List.length_take]; omega)
      generalize L.length = n at *
      clear hsl hv' hle
      go_wp2_with fail
      go_meet
      exact ⟨rfl, _, HV.out, HTL.out⟩
  case rest =>
    obtain ⟨hwc, M1, hM, hM1⟩ := hcut
    obtain rfl := hwc.symm
    have HM1 := Lib.hid hM
    obtain ⟨ma, mc, hu, hmc, hmm2, -, hok⟩ := hM
    obtain ⟨v0, hv0⟩ : ∃ v0, v0 = u0 := ⟨_, rfl⟩
    rw [← hv0] at hu HM1 ⊢
    clear hv0
    subst hu
    have HOK1 := Lib.hid hok; clear hok
    unfold maxLen at hmm2
    clear HBT AW H
    go_upto_if 31 with fail
    generalize hbt : decide ((60 : Int) < (Lb.length : Int)) = t2
    have HBT := Lib.hid hbt; clear hbt

    go_cut [1] from 32 to 33 (fun s1 wx => wx = w1 ∧ ∃ L', InsAt w1 s1 L' ∧ L'.length ≤ 60)
    case first =>
      cases t2
      · have hle : Lb.length ≤ 60 := by have := of_decide_eq_false HBT.out; omega
        have HA := Lib.hid (Hb.out.later HG1.out)
        have HLE := Lib.hid hle
        clear hle
        go_wp2_with fail
        go_meet
        exact ⟨rfl, Lb, HA.out, HLE.out⟩
      · have hle : 60 ≤ Lb.length := by have := of_decide_eq_true HBT.out; omega
        obtain ⟨v', hv', hsl⟩ := (Hb.out.later HG1.out).head 60 hle
        have hsl2 : ∀ W, (Instr.slice 22 (.slice ab Lb.length cap2) none (some (.int .i64 60)) none).run Tryd.prog W = .ok v' W := hsl
        have HV := Lib.hid hv'
        have HTL := Lib.hid (show (Lb.take 60).length ≤ 60 by rw [List.length_take]; omega)
        generalize Lb.length = n at *
        clear hsl hv' hle
        go_wp2_with fail
        go_meet
        exact ⟨rfl, _, HV.out, HTL.out⟩
  
    case rest =>
    obtain ⟨hwc, M2, hM, hM2⟩ := hcut
    obtain rfl := hwc.symm
    have HM2 := Lib.hid hM
    obtain ⟨mb, md, hu, hmd, hmm3, -, hok⟩ := hM
    obtain ⟨v1, hv1⟩ : ∃ v1, v1 = u1 := ⟨_, rfl⟩
    rw [← hv1] at hu HM2 ⊢
    clear hv1
    subst hu
    have HOK2 := Lib.hid hok; clear hok
    unfold maxLen at hmm3
    clear HBT Hb
    generalize hmn1 : M1.length = m1 at *
    have HMN1 := Lib.hid hmn1; clear hmn1
    generalize hmn2 : M2.length = m2 at *
    have HMN2 := Lib.hid hmn2; clear hmn2
    generalize L.length = n0 at *
    generalize Lb.length = n1 at *
    generalize hbw : w1.heap.size = bw1 at *
    have HBW1 := Lib.hid hbw; clear hbw
    go_wp2_with fail
    go_loopg [5, 36] m1 (fun g s5 s36 wr => ∃ k : Nat, g = m1 - k ∧ k ≤ m1 ∧ s36 = .int .i64 k ∧ OwnsIn wr bw1 s5 (M1.take k) ∧ Below bw1 w1 wr)
    case atStart => exact ⟨0, rfl, by omega, rfl, World.ownsRow_nil _ _ _ _, Below.refl _ _⟩
    case round =>
      obtain ⟨k, hgk, hk, rfl, hO, hB⟩ := hrel
      have HK := Lib.hid hgk; have HO := Lib.hid hO; have HB := Lib.hid hB
      clear hgk hO hB
      by_cases hlt : k < m1
      · have hkl : k < M1.length := by rw [HMN1.out]; exact hlt
        have hMr := HM1.out.later (by rw [HBW1.out]; exact HB.out)
        have hs : bw1 ≤ wr.heap.size := by have := HB.out.size; rwa [HBW1.out] at this
        obtain ⟨b, o, c2, hv2, -, hbl, hall⟩ := hMr.cells (by rintro rfl; simp at hkl)
        obtain ⟨hI, c0, c1, c2⟩ := hall k hkl
        simp only [Value.slice.injEq] at hv2
        obtain ⟨rfl, -, -⟩ := hv2
        have HT := Lib.hid (show M1.take (k + 1) = M1.take k ++ [M1[k]] from List.take_succ_eq_append_getElem hkl)
        have OW := Lib.hid (fun W => own_any M1[k] W)
        generalize M1[k] = x at *
        have htl : (M1.take k).length = k := by rw [List.length_take]; omega
        have HTL := Lib.hid htl
        clear hMr hall hI htl
        go_wp2_with fail
        refine (OW.out _).mono ?_
        rintro en w3 ⟨rfl, hg3⟩
        have g3 := ((Below.refl wr.heap.size wr).alloc (Nat.le_refl _) (.cells #[.int .i64 x.op, .int .i64 x.a, .int .i64 x.b] 26)).trans (hg3.mono (by simp))
        have O3 := Lib.hid (show w3.ownsRow bw1 27 3 u5 k (insL (M1.take k)) by have := owns_later HO.out g3; rwa [HTL.out] at this)
        have B3 := Lib.hid (HB.out.trans (g3.mono hs))
        have hs3 := g3.size
        clear hg3 g3
        go_wp2_with (at_builtin; refine wpList_append_own _ rfl _ _ 24 rfl bw1 27 i4 (.agg #[.int .i64 0, .int .i64 0, .int .i64 0]) 3 24 Tryd.underlying24 ji jz0 jz1 jz2 rfl (by decide) u5 k (insL (M1.take k)) rfl (O3.out.alloc _) ⟨w3.heap.size, 0, none⟩ 1 1 [.int .i64 x.op, .int .i64 x.a, .int .i64 x.b] rfl rfl ?c1 ?c2 ?c3 ?c4 ?c5 ?_)
        case c1 =>
          intro j u hj
          match j, hj with
          | 0, hj => simp at hj; subst hj; simp [Addr.add]
          | 1, hj => simp at hj; subst hj; simp [Addr.add]
          | 2, hj => simp at hj; subst hj; simp [Addr.add]
        case c2 => intro u hu; simp at hu; rcases hu with rfl | rfl | rfl <;> rfl
        case c3 => unfold maxLen; omega
        case c4 => omega
        case c5 => simp; omega
        intro v' w4 hown' hgrow _
        have HO4 := Lib.hid (show OwnsIn w4 bw1 v' (M1.take (k + 1)) by
          rw [HT.out]
          exact ownsIn_push (x := x) (by rw [HTL.out]; exact hown'))
        have HB4 := Lib.hid (Below.grown (B3.out.alloc (by omega) (.cells #[.int .i64 x.op, .int .i64 x.a, .int .i64 x.b] 27)) hgrow (by simp; omega) (fun j hj => (O3.out.lt j hj).1))
        clear hown' hgrow
        go_wp2_with fail
        go_roundg (m1 - (k + 1))
        case measure => rw [HK.out]; omega
        case rel => exact ⟨k + 1, rfl, by omega, by go_num, HO4.out, HB4.out⟩
      · obtain rfl : m1 = k := by omega
        have hOw := HO.out
        rw [List.take_of_length_le (by rw [HMN1.out]; omega)] at hOw
        obtain ⟨xa, xc, hxv⟩ := own_shape hOw
        have HX := Lib.hid hOw
        have BW := Lib.hid (show Below w.heap.size w wr from HG1.out.trans ((show Below w1.heap.size w1 wr by rw [HBW1.out]; exact HB.out).mono HG1.out.size))
        have hM2 := HM2.out.later (show Below w1.heap.size w1 wr by rw [HBW1.out]; exact HB.out)
        have HM2 := Lib.hid hM2
        rw [HMN1.out] at hxv
        subst hxv
        clear hOw hM2 HO HB HK
        obtain ⟨wo, hwo⟩ : ∃ x, x = wr := ⟨_, rfl⟩
        subst hwo
        generalize hbw : wo.heap.size = bw2 at *
        have HBW2 := Lib.hid hbw; clear hbw
        go_wp2_with fail

        go_loopg [6, 48] m2 (fun g s6 s48 wr => ∃ k : Nat, g = m2 - k ∧ k ≤ m2 ∧ s48 = .int .i64 k ∧ OwnsIn wr bw2 s6 (M2.take k) ∧ Below bw2 wo wr)
        case atStart => exact ⟨0, rfl, by omega, rfl, World.ownsRow_nil _ _ _ _, Below.refl _ _⟩
        case round =>
          obtain ⟨k, hgk, hk, rfl, hO, hB⟩ := hrel
          have HK := Lib.hid hgk; have HO := Lib.hid hO; have HB := Lib.hid hB
          clear hgk hO hB
          by_cases hlt : k < m2
          · have hkl : k < M2.length := by rw [HMN2.out]; exact hlt
            have hMr := HM2.out.later (by rw [HBW2.out]; exact HB.out)
            have hs : bw2 ≤ wr.heap.size := by have := HB.out.size; rwa [HBW2.out] at this
            obtain ⟨b, o, c2, hv2, -, hbl, hall⟩ := hMr.cells (by rintro rfl; simp at hkl)
            obtain ⟨hI, c0, c1, c2⟩ := hall k hkl
            simp only [Value.slice.injEq] at hv2
            obtain ⟨rfl, -, -⟩ := hv2
            have HT := Lib.hid (show M2.take (k + 1) = M2.take k ++ [M2[k]] from List.take_succ_eq_append_getElem hkl)
            have OW := Lib.hid (fun W => own_any M2[k] W)
            generalize M2[k] = x at *
            have htl : (M2.take k).length = k := by rw [List.length_take]; omega
            have HTL := Lib.hid htl
            clear hMr hall hI htl
            go_wp2_with fail
            refine (OW.out _).mono ?_
            rintro en w3 ⟨rfl, hg3⟩
            have g3 := ((Below.refl wr.heap.size wr).alloc (Nat.le_refl _) (.cells #[.int .i64 x.op, .int .i64 x.a, .int .i64 x.b] 26)).trans (hg3.mono (by simp))
            have O3 := Lib.hid (show w3.ownsRow bw2 27 3 u6 k (insL (M2.take k)) by have := owns_later HO.out g3; rwa [HTL.out] at this)
            have B3 := Lib.hid (HB.out.trans (g3.mono hs))
            have hs3 := g3.size
            clear hg3 g3
            go_wp2_with (at_builtin; refine wpList_append_own _ rfl _ _ 24 rfl bw2 27 i4 (.agg #[.int .i64 0, .int .i64 0, .int .i64 0]) 3 24 Tryd.underlying24 ji jz0 jz1 jz2 rfl (by decide) u6 k (insL (M2.take k)) rfl (O3.out.alloc _) ⟨w3.heap.size, 0, none⟩ 1 1 [.int .i64 x.op, .int .i64 x.a, .int .i64 x.b] rfl rfl ?c1 ?c2 ?c3 ?c4 ?c5 ?_)
            case c1 =>
              intro j u hj
              match j, hj with
              | 0, hj => simp at hj; subst hj; simp [Addr.add]
              | 1, hj => simp at hj; subst hj; simp [Addr.add]
              | 2, hj => simp at hj; subst hj; simp [Addr.add]
            case c2 => intro u hu; simp at hu; rcases hu with rfl | rfl | rfl <;> rfl
            case c3 => unfold maxLen; omega
            case c4 => omega
            case c5 => simp; omega
            intro v' w4 hown' hgrow _
            have HO4 := Lib.hid (show OwnsIn w4 bw2 v' (M2.take (k + 1)) by
              rw [HT.out]
              exact ownsIn_push (x := x) (by rw [HTL.out]; exact hown'))
            have HB4 := Lib.hid (Below.grown (B3.out.alloc (by omega) (.cells #[.int .i64 x.op, .int .i64 x.a, .int .i64 x.b] 27)) hgrow (by simp; omega) (fun j hj => (O3.out.lt j hj).1))
            clear hown' hgrow
            go_wp2_with fail
            go_roundg (m2 - (k + 1))
            case measure => rw [HK.out]; omega
            case rel => exact ⟨k + 1, rfl, by omega, by go_num, HO4.out, HB4.out⟩
          · obtain rfl : m2 = k := by omega
            have hOw2 := HO.out
            rw [List.take_of_length_le (by rw [HMN2.out]; omega)] at hOw2
            obtain ⟨ya, yc, hyv⟩ := own_shape hOw2
            rw [HMN2.out] at hyv
            subst hyv
            have hbr : Below wo.heap.size wo wr := by rw [HBW2.out]; exact HB.out
            have hx2 := owns_later HX.out hbr
            have BWR := Lib.hid (BW.out.trans (hbr.mono BW.out.size))
            have X2 := Lib.hid (insAt_of_owns hx2 HOK1.out)
            have Y2 := Lib.hid (insAt_of_owns hOw2 HOK2.out)
            have E1 := Lib.hid (encode_any _ M1 wr X2.out (by rw [HMN1.out]; omega))
            have E2 := Lib.hid (fun W (hW : Below wr.heap.size wr W) => encode_any _ M2 W (Y2.out.later hW) (by rw [HMN2.out]; omega))
            obtain ⟨xa', xc', hxe, xle, -, xrow, xnone⟩ := row_of_owns_any hx2
            simp only [Value.slice.injEq] at hxe
            obtain ⟨rfl, -, rfl⟩ := hxe
            obtain ⟨ya', yc', hye, yle, -, yrow, ynone⟩ := row_of_owns_any hOw2
            simp only [Value.slice.injEq] at hye
            obtain ⟨rfl, -, rfl⟩ := hye
            rw [HMN1.out] at xle
            rw [HMN2.out] at yle
            have XR := Lib.hid xrow; have XN := Lib.hid xnone; have YR := Lib.hid yrow; have YN := Lib.hid ynone
            clear xrow xnone yrow ynone hx2 hOw2 hbr HX HO HB HK BW HM1 HM2
            go_wp2_with fail
            refine E1.out.mono ?_
            intro en wa hp
            obtain ⟨p, c1, rfl, hc1, hga⟩ := hp.any
            have HC1 := Lib.hid hc1; have HGA := Lib.hid hga; clear hc1 hga hp E1
            go_wp2_with fail
            refine (E2.out _ HGA.out).mono ?_
            intro en wb hp
            obtain ⟨q, c2, rfl, hc2, hgb⟩ := hp.any
            have HC2 := Lib.hid hc2; have HGB := Lib.hid hgb; have HGR := Lib.hid (HGA.out.trans (hgb.mono HGA.out.size)); clear hc2 hgb hp E2
            have ho := World.ownsRow_lit wb #[] 0 (Nat.le_refl _) (e := 27) (size := 3) (by decide) rfl
            go_wp2_with (at_builtin; go_loud (refine wpList_append_row rfl _ _ 24 rfl wb.heap.size 27 i4 _ 3 24 Tryd.underlying24 ji jz0 jz1 jz2 rfl (by decide) _ _ _ rfl ho xa m1 xc (insL M1) rfl (by rw [insL_length, HMN1.out]) (XR.out.later ?b1) XN.out xle (insL_ones M1) ?c3 ?c4 ?c5 ?_))
            case b1 => exact HGR.out.trans (((Below.refl _ _).alloc (Nat.le_refl _) _).mono HGR.out.size)
            case c3 => unfold maxLen; omega
            case c4 => omega
            case c5 => simp
            intro z1 w7 hz1 hgr1
            have b7 : Below wb.heap.size wb w7 := by
              refine Below.grown ?_ hgr1 ?_ (fun q hq => (ho.lt q hq).1)
              · exact (Below.refl _ _).alloc (Nat.le_refl _) _
              · simp
            have HZ1 := Lib.hid hz1; have B7 := Lib.hid b7; have hs7 := b7.size; clear hz1 hgr1 b7 ho
            go_wp2_with (at_builtin; go_loud (refine wpList_append_row rfl _ _ 24 rfl wb.heap.size 27 i4 _ 3 24 Tryd.underlying24 ji jz0 jz1 jz2 rfl (by decide) _ _ _ rfl HZ1.out ya m2 yc (insL M2) rfl (by rw [insL_length, HMN2.out]) (YR.out.later ?b1) YN.out yle (insL_ones M2) ?c3 ?c4 hs7 ?_))
            case b1 => exact HGR.out.trans (B7.out.mono HGR.out.size)
            case c3 => unfold maxLen; omega
            case c4 => omega
            intro z2 w8 hz2 hgr2
            have b8 : Below wb.heap.size wb w8 := B7.out.grown hgr2 hs7 (fun q hq => (HZ1.out.lt q hq).1)
            have hz : OwnsIn w8 wb.heap.size z2 (M1 ++ M2) := by
              unfold OwnsIn
              rw [insL_append, List.length_append, HMN1.out, HMN2.out]
              simpa using hz2
            have hok12 : ∀ x ∈ M1 ++ M2, okI x := fun x hx => (List.mem_append.1 hx).elim (HOK1.out x) (HOK2.out x)
            have hml : (M1 ++ M2).length ≤ 120 := by rw [List.length_append, HMN1.out, HMN2.out]; omega
            have E3 := Lib.hid (encode_any z2 (M1 ++ M2) w8 (insAt_of_owns hz hok12) (by omega))
            have B8 := Lib.hid b8
            have HML := Lib.hid hml
            clear hz hok12 hml b8 hz2 hgr2 HZ1 XR XN YR YN
            generalize hmm : M1 ++ M2 = MM at *
            have HMM := Lib.hid hmm; clear hmm
            go_wp2_with fail
            refine E3.out.mono ?_
            intro en w9 hp
            obtain ⟨z, c3, rfl, hc3, hg9⟩ := hp.any
            have BX := Lib.hid (BWR.out.trans ((HGR.out.trans ((B8.out.trans (hg9.mono B8.out.size)).mono HGR.out.size)).mono BWR.out.size))
            have B9 := Lib.hid (B8.out.trans (hg9.mono B8.out.size))
            have HC3 := Lib.hid hc3
            clear hc3 hg9 hp E3
            rcases HC1.out with ⟨rfl, ha1, hp1⟩ | ⟨rfl, ha1, rfl⟩
            rotate_left
            · have hz := HC3.out
              rw [← HMM.out, List.all_append, ha1] at hz
              rcases hz with ⟨-, hz, -⟩ | ⟨rfl, -, rfl⟩
              · cases hz
              go_wp2_with fail
              go_ret
              exact ⟨rfl, BX.out⟩
            rcases HC2.out with ⟨rfl, ha2, hq1⟩ | ⟨rfl, ha2, rfl⟩
            rotate_left
            · have hz := HC3.out
              rw [← HMM.out, List.all_append, ha2, Bool.and_false] at hz
              rcases hz with ⟨-, hz, -⟩ | ⟨rfl, -, rfl⟩
              · cases hz
              go_wp2_with fail
              go_ret
              exact ⟨rfl, BX.out⟩
            have hz := HC3.out
            have hall : MM.all encOk = true := by rw [← HMM.out, List.all_append, ha1, ha2]; rfl
            rcases hz with ⟨rfl, -, hz⟩ | ⟨-, hz, -⟩
            rotate_left
            · rw [hall] at hz; cases hz
            obtain ⟨T, ht1, ht2, ht3⟩ := text_enc MM hall (by have := HML.out; omega)
            have zl := encAll_le MM
            have hml := HML.out
            have tx := text_any z (encAll MM) w9 (bytes_of_owns hz) (by omega) (tabis_later HTB.out BX.out)
            unfold TextPost at tx
            rw [ht1] at tx
            have hcat : encAll MM = encAll M1 ++ encAll M2 := by rw [← HMM.out, encAll_append]
            have hlm : MM.length = m1 + m2 := by rw [← HMM.out, List.length_append, HMN1.out, HMN2.out]
            have l1 : (encAll M1).length ≤ 300 := by have := encAll_le M1; rw [HMN1.out] at this; omega
            have l2 : (encAll M2).length ≤ 300 := by have := encAll_le M2; rw [HMN2.out] at this; omega
            rw [hlm] at ht2 ht3
            have TX := Lib.hid tx
            have PB := Lib.hid (((bytes_of_owns hp1).later HGB.out).later B9.out)
            have QB := Lib.hid ((bytes_of_owns hq1).later B9.out)
            have ZB := Lib.hid (bytes_of_owns hz)
            have HCAT := Lib.hid hcat
            have HT2 := Lib.hid ht2
            have hts : (⟨T.toArray⟩ : ByteArray).data.toList = T := by simp
            have hsz : (⟨T.toArray⟩ : ByteArray).size = T.length := by show Array.size _ = _; simp
            obtain ⟨qa, qc, rfl, hq2, -, hq3, hq4⟩ := QB.out
            obtain ⟨za, zc, rfl, -⟩ := ZB.out
            have QR := Lib.hid hq3; have QN := Lib.hid hq4
            generalize hn2 : (encAll M2).length = n2 at *
            have HN2 := Lib.hid hn2
            clear hn2
            generalize (encAll MM).length = n3 at *
            clear tx hcat ht1 ht2 hp1 hq1 hz hq3 hq4 hall ha1 ha2 HC1 HC2 HC3 zl
            generalize (⟨T.toArray⟩ : ByteArray) = s at *
            have HTS := Lib.hid hts; clear hts
            go_wp2_with fail
            refine TX.out.mono ?_
            rintro en w10 ⟨rfl, hg10⟩
            obtain ⟨sa, sc, w11, hcv, hby, hg11⟩ := conv_bytes s w10 (by omega)
            rw [HTS.out] at hby
            rw [hsz] at hcv hby
            have G11 := Lib.hid (hg10.trans (hg11.mono hg10.size))
            have HBY := Lib.hid hby
            clear hby hg10 hg11 TX
            generalize htl : T.length = n at *
            have HTL := Lib.hid htl; clear htl hsz
            go_wp2_with fail
            go_loopg [19, 98] n (fun g s19 s98 wx => ∃ j : Nat, g = n - j ∧ j ≤ n ∧ s98 = .int .i64 j ∧ s19 = .int .i64 (((T.take j).count 10 : Nat) : Int) ∧ wx = w11)
            case atStart => exact ⟨0, rfl, by omega, rfl, by simp, rfl⟩
            case round =>
              obtain ⟨j, hgj, hj, rfl, rfl, hwx⟩ := hrel
              obtain rfl := hwx.symm
              have HJ := Lib.hid hgj
              clear hgj hwx
              by_cases hlt : j < n
              · have hjl : j < T.length := by rw [HTL.out]; exact hlt
                have hby := HBY.out
                rw [← HTL.out] at hby
                obtain ⟨b, o, c2, hv2, -, hcs⟩ := hby.shape (by rintro rfl; simp at hjl)
                simp only [Value.slice.injEq] at hv2
                obtain ⟨rfl, -, rfl⟩ := hv2
                have hcell : w11.cell? ⟨b, o + j, none⟩ = some (.int .u8 (T[j].toNat : Int)) := by rw [hcs j hjl]; simp [Lib.byteCells, List.getElem?_eq_getElem hjl]
                have hbl := lt_of_cell hcell
                have hct := count_take_succ T j hjl
                have hle : (T.take j).count 10 ≤ 100000 := by have h1 := List.count_le_length (a := (10 : UInt8)) (l := T.take j); rw [List.length_take] at h1; omega
                by_cases hch : T[j] = 10
                · rw [if_pos hch] at hct
                  rw [hch] at hcell
                  have HCT := Lib.hid hct
                  clear hct hch hjl hby hcs
                  generalize (T.take j).count 10 = q at *
                  go_wp2_with fail
                  go_roundg (n - (j + 1))
                  case measure => rw [HJ.out]; omega
                  case rel => exact ⟨j + 1, rfl, by omega, by go_num, by rw [HCT.out]; go_num, rfl⟩
                · rw [if_neg hch] at hct
                  have hne : ((T[j].toNat : Int) == 10) = false := by
                    rw [beq_eq_false_iff_ne]
                    intro e; apply hch; apply UInt8.toNat_inj.1; show T[j].toNat = 10; omega
                  have HCT := Lib.hid hct
                  clear hct hch
                  generalize T[j].toNat = ch at *
                  clear hjl hby hcs
                  generalize (T.take j).count 10 = q at *
                  go_wp2_with fail
                  go_roundg (n - (j + 1))
                  case measure => rw [HJ.out]; omega
                  case rel => exact ⟨j + 1, rfl, by omega, by go_num, by rw [HCT.out]; go_num, rfl⟩
              · obtain rfl : n = j := by omega
                have hcn : (T.take n).count 10 = m1 + m2 := by rw [List.take_of_length_le (by rw [HTL.out]; omega)]; exact HT2.out
                rw [hcn]
                have hln : (((m1 + m2 : Nat) : Int) == (m1 : Int) + (m2 : Int)) = true := by rw [beq_iff_eq]; omega
                clear hcn
                have CP := Lib.hid (copy_any p (encAll M1) w11 (PB.out.later G11.out) (by omega))
                go_wp2_with fail
                refine CP.out.mono ?_
                rintro en w12 ⟨s1, rfl, hs1, hg12⟩
                obtain ⟨i1, hj1, hj2, hj3, hj4⟩ := info_parts byteInfo
                have Q12 := Lib.hid (QR.out.later (G11.out.trans (hg12.mono G11.out.size)))
                have O1 := Lib.hid hs1
                have hs12 := hg12.size
                have B12 := Lib.hid hg12
                clear hs1 hg12 CP
                go_wp2_with (at_builtin; go_loud (refine wpList_append_row_want (by first | rfl | simp [Region.wanted, yielded]) _ _ 29 rfl w11.heap.size 5 i1 _ 1 1 Tryd.underlying29 hj1 hj2 hj3 hj4 rfl (by decide) _ _ _ rfl O1.out qa n2 qc (Lib.byteCells (encAll M2)) rfl (by rw [Lib.byteCells_length, HN2.out, Nat.mul_one]) Q12.out QN.out hq2 ?c2 ?c3 ?c4 ?c5 ?_))
                case c2 => intro u hu; simp only [Lib.byteCells, List.mem_map] at hu; obtain ⟨b, _, rfl⟩ := hu; rfl
                case c3 => unfold maxLen; omega
                case c4 => omega
                case c5 => omega
                intro s4 w15 ho4 hgr4
                have E4 : BytesAt w15 s4 (encAll M1 ++ encAll M2) := bytes_of_owns (ownsB_of ho4 (by rw [Lib.byteCells_append]))
                have b15 : Below w11.heap.size w11 w15 := B12.out.grown hgr4 (by omega) (fun q hq => (O1.out.lt q hq).1)
                have BE := Lib.hid (BX.out.trans ((G11.out.trans (b15.mono G11.out.size)).mono BX.out.size))
                have eq := requal_any _ s4 (encAll MM) (encAll M1 ++ encAll M2) w15 (ZB.out.later (G11.out.trans (b15.mono G11.out.size))) E4
                rw [HCAT.out, beq_self_eq_true] at eq
                have EQ := Lib.hid eq
                clear ho4 hgr4 E4 b15 eq
                go_wp2_with fail
                refine EQ.out.mono ?_
                rintro en w16 ⟨rfl, hw16⟩
                obtain rfl := hw16.symm
                go_wp2_with fail
                go_ret
                exact ⟨rfl, BE.out⟩
theorem own : ownKnob Tryd.prog.godebug = none := by kernel_rfl
theorem laidOut : laidOutB Tryd.prog = true := by kernel_rfl
set_option maxRecDepth 100000 in
theorem lifted (os : Os) (started : os.Started) (H : Type) (enc : TypeId × Value → H) :
    ReturnsInHanded {} Tryd.checked os 6 .any (fun w args => (Rows.codeJoinsSpec.pre enc Tryd.prog Tryd.f6 Rows.codeJoinsRow.domain false w args ∧ laidMet Tryd.prog Rows.codeJoinsRow.laid w) ∧ sizedMet enc Tryd.prog Tryd.f6 (OpenSpec.ofChange Rows.codeJoinsSpec) false w args)
      (Rows.codeJoinsSpec.post enc Tryd.prog Tryd.f6 false true false false) := by
  refine returnsInHanded_of_change_and (C := Tryd.checked) (X := fun w _ => laidMet Tryd.prog Rows.codeJoinsRow.laid w) (fun _ _ _ hh h => h.of_heap hh) own started (by kernel_rfl) Tryd.func6
    (ChangeSpec.witness_at (enc := enc) (C := Tryd.checked) (os := os) (X := fun w _ => laidMet Tryd.prog Rows.codeJoinsRow.laid w) false (laidWorld os) #[.slice none 0 0, .slice none 0 0] 8 rfl (by kernel_rfl) (by kernel_rfl) (by kernel_rfl) (by kernel_rfl) (by kernel_rfl) (laid_met os _)) ?_
  intro W base args ds gs before hval0 hW hcnd hsz0 hL _
  have hval : ∀ (j : Nat) t v, Tryd.f6.params[j]? = some t → args[j]? = some v → Value.okWide Tryd.prog W .any base t v := hval0
  have hW' := hW
  obtain ⟨p, q, hA0, hV, rfl, hfz, hnd⟩ := hW
  have hA : DataW.TrodAll enc Tryd.prog W 0 (fun _ => true) true Tryd.f6.params.toList args.toList ds p := hA0
  rw [Tryd.params6] at hA hval
  obtain ⟨v0, vs0, d0, ds0, p0, q0, hargs, rfl, rfl, h0, r0⟩ := trodAll_cons hA
  obtain ⟨v1, vs1, d1, ds1, p1, q1, rfl, rfl, rfl, h1, r1⟩ := trodAll_cons r0
  obtain ⟨rfl, rfl, rfl⟩ := trodAll_nil r1
  obtain rfl : args = #[v0, v1] := by cases args; simp_all
  obtain ⟨rfl, rfl⟩ := trodVars_none hV
  have k0 := h0
  have lt0 : ∀ x ∈ p0, x.block < W.heap.size := by obtain ⟨m, hm⟩ := k0; exact DataW.trod_lt m _ _ _ hm
  have k1 := h1
  have lt1 : ∀ x ∈ p1, x.block < W.heap.size := by obtain ⟨m, hm⟩ := k1; exact DataW.trod_lt m _ _ _ hm
  obtain ⟨list, hl⟩ := open_inss (hval 0 22 v0 rfl rfl) h0
  obtain ⟨list2, hl2⟩ := open_inss (hval 1 22 v1 rfl rfl) h1
  have hT := tab_of_laid hL
  clear hA0 hval0
  refine (walk v0 v1 list list2 W hl hl2 hT).mono fun e W' ⟨he, bel⟩ => ?_
  subst he
  exact ⟨_, rfl, _, _, _, [], _, [], hW', trodAll_mk1 (shut_bool Tryd.underlying4 _), (trodAll_cons_mk (Below.trod laidOut (by kernel_rfl) (of_decide_eq_true (by kernel_rfl)) k0 bel lt0) (trodAll_cons_mk (Below.trod laidOut (by kernel_rfl) (of_decide_eq_true (by kernel_rfl)) k1 bel lt1) trodAll_mk0)), rfl, bel.frame _, fun h => by cases h⟩
theorem over : Rows.codeJoinsRow.holds Tryd.pinned (OpenSpec.ofChange Rows.codeJoinsSpec) :=
  OpenClaim.holds_of_wide 6 Tryd.f6 rfl rfl rfl rfl rfl rfl rfl ⟨rfl, rfl, rfl, rfl, rfl⟩ rfl rfl rfl rfl rfl (by kernel_rfl) Tryd.func6 (by kernel_rfl)
    (of_decide_eq_true (by kernel_rfl)) (by unfold Func.isWrapper; rw [if_neg (by decide +kernel)]; exact ⟨rfl, rfl⟩)
    (fun os started H enc _ => lifted os started H enc)
theorem proved : Rows.CodeJoinsCardSaid :=
  Claim7.holds_tied_plain_at .later [] [.data, .data, .data] true (true, "d7c8e61464f1694cb5dba5bc2a5b84bdbbfecf7e2eafed13dcf4db7bf58ed3fa") false
    over (fun _ h => by cases h) (by kernel_rfl) (fun _ h => by cases h) codeJoins_row_tie rfl ⟨rfl, rfl⟩ (by kernel_rfl) rfl
    (fun f fn hf hfn => by
      obtain rfl : f = 6 := Option.some.inj ((show Tryd.prog.funcNamed "foundling/foundlinglaw14.CodeJoins" = some 6 by kernel_rfl).symm.trans hf) |>.symm
      obtain rfl : fn = Tryd.f6 := (Option.some.inj (Tryd.func6.symm.trans hfn)).symm
      exact ⟨by kernel_rfl, fun j t ht => by
        have hall : (Tryd.f6.params.all fun t => !Tryd.prog.wantsStandIn t) = true := by kernel_rfl
        rw [Array.all_eq_true_iff_forall_mem] at hall
        have := hall t (Array.mem_of_getElem? ht)
        show Tryd.prog.wantsStandIn t = false
        simpa using this⟩)
    (by kernel_rfl)
end Go.Proofs.YtnajgpefmknmpaaDoor.codeJoins
