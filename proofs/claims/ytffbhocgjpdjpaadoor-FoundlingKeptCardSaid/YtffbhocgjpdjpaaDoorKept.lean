/- FoundlingKept: what is collected, made an image, and loaded in just as many cells as it needs, leads to the same: for every graph, root and number of cells more. -/
import Derived.Test.YtffbhocgjpdjpaaDoorCollH
import Derived.Test.YtffbhocgjpdjpaaDoorLayOpen
import Derived.Test.YtffbhocgjpdjpaaDoorTie
import Derived.Test.YtffbhocgjpdjpaaDoorCards
import Derived.ChangeOld
import Derived.Lib.MinMax
namespace Go.Proofs.YtffbhocgjpdjpaaDoor.foundlingKept
open Go.ChangeShapes Go.WideShapes Go.ChangeAt Go.RowKit
set_option linter.unusedVariables false
set_option maxRecDepth 100000 in
set_option maxHeartbeats 4000000 in
theorem walk (kv gv : Value) (ks : List Int) (ls : List Nat) (z : Nat) (x : Int) (w : World) (hk : NumsAt w .i64 kv ks) (hg : WordsAt w gv ls) (hls : ∀ x, x ∈ ls → x < 18446744073709551616) (hz : z < 18446744073709551616) (hx0 : -9223372036854775808 ≤ x) (hx1 : x ≤ 9223372036854775807)
    (hT : TabAt 0 Lib.deBruijn64tab w) :
    Calls Tryd.prog 4 #[.agg #[kv, gv], .int .u64 (z : Int), .int .i64 x] w fun e w' => e = .returned (.bool true) ∧ Below w.heap.size w w' := by
  have LY := Lib.hid (fun W (hW : Below w.heap.size w W) => lay_any kv gv ks ls W (hk.later hW) (hg.later hW) hls)
  have HT := Lib.hid hT
  obtain ⟨ka, kcap, rfl, -⟩ := id hk
  obtain ⟨ga, gcap, rfl, -⟩ := id hg
  clear hk hg hls hT
  go_enter Tryd.func4, Tryd.ntmps4
  go_upto_region 1 with fail
  obtain ⟨w1, hw1⟩ : ∃ w1, w1 = w.alloc (.cells #[.slice ka ks.length kcap, .slice ga ls.length gcap] 25) := ⟨_, rfl⟩
  rw [← hw1]
  have hh1 : w1.heap[w.heap.size]? = some (.cells #[.slice ka ks.length kcap, .slice ga ls.length gcap] 25 (0, 0)) := by rw [hw1]; exact heap_alloc_new w _
  have hb1 : Below w.heap.size w w1 := by rw [hw1]; exact (Below.refl _ w).alloc (Nat.le_refl _) _
  have y0 := cellO hh1 0
  have y1 := cellO hh1 1
  simp at y0 y1
  have m1 : w.heap.size < w1.heap.size := (Array.getElem?_eq_some_iff.1 hh1).1
  have B1 := Lib.hid hb1
  clear hw1 hh1 hb1
  go_wp2_with fail
  refine (LY.out w1 B1.out).mono ?_
  rintro e w3 ⟨h, lv, os, free, S, M, E, rfl, hh3, hlay, hol, hro, hg3⟩
  obtain ⟨la, ln, lc, rfl⟩ : ∃ la ln lc, lv = .slice la ln lc := by obtain ⟨la, lc, _, h1, -⟩ := hro; exact ⟨_, _, _, h1⟩
  have hfr := hlay.most
  have hM : ∀ i, M i < 18446744073709551616 := by obtain ⟨g, s, -, -, -, -, -, -, -, h, -⟩ := hh3; exact h
  have HG := Lib.hid (hlay.good (by omega))
  have hhB : w1.heap.size + 2 ≤ w3.heap.size := by
    obtain ⟨g, s, k1, k2, k3, k3', k4, k5, -⟩ := hh3
    have := (Array.getElem?_eq_some_iff.1 k5).1
    omega
  have HC := Lib.hid (hlay.coll (N := 200) (by omega) (by omega) hM)
  have HSM := Lib.hid (hlay.small (by omega))
  have B3 := Lib.hid (B1.out.trans (hg3.mono B1.out.size))
  have HH3 := Lib.hid hh3; have HRO := Lib.hid hro
  have hs3 := hg3.size
  clear hh3 hlay hro hg3 y0 y1 hM
  go_upto_region 4 with fail
  obtain ⟨w4, hw4⟩ : ∃ w4, w4 = w3.alloc (.cells #[.int .i64 200, .slice la ln lc, .int .u32 0] 30) := ⟨_, rfl⟩
  rw [← hw4]
  have hh4 : w4.heap[w3.heap.size]? = some (.cells #[.int .i64 200, .slice la ln lc, .int .u32 0] 30 (0, 0)) := by rw [hw4]; exact heap_alloc_new w3 _
  have hb4 : Below w3.heap.size w3 w4 := by rw [hw4]; exact (Below.refl _ w3).alloc (Nat.le_refl _) _
  have B4 := Lib.hid (B3.out.trans (hb4.mono B3.out.size))
  have d0 := cellO hh4 0
  have d1 := cellO hh4 1
  have d2 := cellO hh4 2
  have m4 := (Array.getElem?_eq_some_iff.1 hh4).1
  simp at d0 d1 d2
  have HH4 := Lib.hid (HH3.out.later hb4)
  have HRO4 := Lib.hid (HRO.out.later hb4)
  clear hw4 hh4 hb4
  go_wp2_with fail
  have hw1 := words_one' w4 z 48
  have hb5 : Below w4.heap.size w4 (w4.alloc (.cells #[.int .u64 (z : Int)] 48)) := (Below.refl _ w4).alloc (Nat.le_refl _) _
  generalize w4.alloc (.cells #[.int .u64 (z : Int)] 48) = w5 at *
  have B5 := Lib.hid (B4.out.trans (hb5.mono B4.out.size))
  refine (roots_any E _ _ os [z] w5 (HRO4.out.later hb5) hw1 (fun x hx => by simp at hx; omega) HSM.out (by omega)).mono ?_
  rintro e w6 ⟨av, bv, rs, rfl, hrl, hrs, hoa, -, hg6⟩
  obtain ⟨r0, rfl⟩ : ∃ r0, rs = [r0] := by
    cases rs with
    | nil => simp at hrl
    | cons a l =>
      cases l with
      | nil => exact ⟨a, rfl⟩
      | cons b l => simp at hrl
  have HH6 := Lib.hid ((HH4.out.later hb5).later hg6)
  have B6 := Lib.hid (B5.out.trans (hg6.mono B5.out.size))
  have WA := Lib.hid (words_of_owns hoa)
  have hs6 := hg6.size
  have hs5 := hb5.size
  obtain ⟨aa, an, ac, rfl⟩ := owns_slice hoa
  have ORD := Lib.hid (order_words _ h 200 free S M [r0] _ w6 HH6.out HG.out WA.out hrs (by simp))
  have HRS := Lib.hid hrs
  clear hrl hrs hoa hg6 hb5 hw1 d0 d1 d2
  go_wp2_with fail
  refine ORD.out.mono ?_
  rintro e w7 ⟨hcase, hg7⟩
  have B7 := Lib.hid (B6.out.trans (hg7.mono B6.out.size))
  have HH7 := Lib.hid (HH6.out.later hg7)
  have WA7 := Lib.hid (WA.out.later hg7)
  have hs7 := hg7.size
  clear hg7 ORD
  rcases hcase with ⟨-, rfl⟩ | ⟨T, ov, ol, hst, rfl, how, hlen, -⟩
  · go_wp2_with fail
    go_ret
    exact ⟨rfl, B7.out⟩
  · obtain ⟨oa, oc, rfl, -⟩ := (words_of_owns (l := ol) how).get
    have HST := Lib.hid hst
    have HLEN := Lib.hid hlen
    have COL := Lib.hid (collect_any _ h 200 free S M [r0] _ w7 HH7.out (by omega) HG.out HC.out WA7.out HRS.out (by simp) (tab_later HT.out B7.out) (by omega) (by omega))
    clear hst how hlen
    obtain ⟨oln, hol2⟩ : ∃ oln, ol.length = oln := ⟨_, rfl⟩
    rw [hol2] at HLEN ⊢
    clear hol2
    by_cases h0 : oln = 0
    · subst h0
      go_wp2_with fail
      all_goals try (exfalso; go_light; omega)
      go_ret
      exact ⟨rfl, B7.out⟩
    · go_wp2_with fail
      all_goals try (exfalso; go_light; omega)
      refine COL.out.mono ?_
      rintro e w8 ⟨cv, cr, rfl, hbB, hbq, hcase⟩
      rcases hcase with ⟨hbad, -⟩ | ⟨rfl, T2, hst2, hout, hh8⟩
      · exact absurd hbad HST.out.good
      · obtain rfl := hst2.unique HST.out
        obtain ⟨S2, M2, ws, pl, P, m, e1, e2, e3, e4, c1, c2, c3, c4, c5, c6, c7, c8, c9, c10, c11, c12, c13⟩ := collected HC.out HST.out (by have := HLEN.out; omega)
        rw [e4] at hout
        have h8 : HeapAt w8 (w1.heap.size + 2) h 200 (2 + ksum M T 200) (newS 200 M T) (newM 200 M T) := hh8
        rw [e1, e2, e3] at h8
        have C7 := Lib.hid c7; have C8 := Lib.hid c8; have C9 := Lib.hid c9; have C10 := Lib.hid c10; have C11 := Lib.hid c11; have C12 := Lib.hid c12; have C13 := Lib.hid c13
        have H8 := Lib.hid h8
        have B8 := Lib.hid (B7.out.trans (hbB.mono (by have := B1.out.size; omega)))
        obtain ⟨ba, bc, rfl, bl1, bl2, bl3⟩ := (words_of_owns hout).get
        obtain ⟨bb, bo, rfl, bl4, hb0⟩ := bl3 0 (by simp)
        have hb0 : w8.cell? ⟨bb, bo, none⟩ = some (.int .u64 ((P : Int) * 2)) := by simpa using hb0
        simp at bl1
        clear e1 e2 e3 e4 c7 c8 c9 c10 c11 c12 c13 h8 hh8 hout bl3 hst2 HC HG HST hbB hbq COL
        have CL := Lib.hid (fun N2 (hN : 2 + m ≤ N2) B' h' W (hH : HeapAt W B' h' N2 (2 + m) S2 M2) (hbW : Below w.heap.size w W) => (show Calls Tryd.prog 20 #[.pointer (some ⟨h', 0, none⟩)] W fun e w' => e = .returned (.bool true) ∧ Below W.heap.size W w' from by
          refine (closed_any B' h' N2 (2 + m) S2 M2 W hH (C13.out N2 hN).1 c6 (tab_later HT.out hbW)).mono ?_
          rintro e w' ⟨b, rfl, hb, hg⟩
          rw [show b = true from hb.2 C7.out]
          exact ⟨rfl, hg⟩))
        have CLQ := Lib.hid (CL.out 200 c1 _ h w8 H8.out B8.out)
        go_wp2_with fail
        refine CLQ.out.mono ?_
        rintro e w9 ⟨rfl, hg9⟩
        have hb9 := (hg9.cell (p := ⟨bb, bo, none⟩) bl4).trans hb0
        have bl9 : bb < w9.heap.size := by have := hg9.size; omega
        have H9 := Lib.hid (H8.out.later hg9)
        have B9 := Lib.hid (B8.out.trans (hg9.mono B8.out.size))
        have EN := Lib.hid (encode_big _ h 200 (2 + m) P S2 M2 w9 H9.out (by omega) (by omega) (by omega) (by omega) c4 c5)
        clear hb0 bl4 hg9 CLQ
        go_wp2_with fail
        refine EN.out.mono ?_
        rintro e w10 ⟨v10, rfl, ho10, hg10⟩
        have hb10 := (hg10.cell (p := ⟨bb, bo, none⟩) bl9).trans hb9
        have bl10 : bb < w10.heap.size := by have := hg10.size; omega
        have H10 := Lib.hid (H9.out.later hg10)
        have B10 := Lib.hid (B9.out.trans (hg10.mono B9.out.size))
        have hlen := imgL_len M2 (2 + m) (P * 2)
        rw [show 2 + m - 2 = m by omega] at hlen
        have HV := Lib.hid (bytes_of_owns ho10)
        obtain ⟨g, cap, rfl, hgB, hgl, hc1, hc2⟩ := ownsB_form ho10 (by omega)
        rw [hlen] at hc1 ⊢
        have US := Lib.hid (used_any _ h 200 (2 + m) S2 M2 w10 H10.out)
        clear hb9 bl9 hg10 EN ho10
        have HLN := Lib.hid hlen
        clear hlen
        go_wp2_with fail
        refine US.out.mono ?_
        rintro e w11 ⟨rfl, rfl⟩
        go_upto_region 15 with fail
        obtain ⟨N2, hN2, n1, n2, n3⟩ : ∃ N2 : Nat, max 16 (2 + (m : Int)) + max 0 (min x 1000) = (N2 : Int) ∧ 16 ≤ N2 ∧ 2 + m ≤ N2 ∧ N2 ≤ 1300 := ⟨(max 16 (2 + (m : Int)) + max 0 (min x 1000)).toNat, by omega, by omega, by omega, by omega⟩
        rw [hN2]
        clear hN2
        have hV := HV.out
        have hfit := imgL_fits M2 (2 + m) (P * 2)
        have hfront := imgL_front M2 (2 + m) (P * 2) (by omega) (by omega)
        have hM : ∀ i, M2 i < 18446744073709551616 := by obtain ⟨g, s, -, -, -, -, -, -, -, h, -⟩ := H10.out; exact h
        have hused := imgL_used M2 (2 + m) (P * 2) hM
        rw [C10.out] at hused
        rw [show 2 + m - 2 = m by omega] at hused hfront
        obtain ⟨L, hL⟩ : ∃ L, imgL M2 (2 + m) (P * 2) = L := ⟨_, rfl⟩
        rw [hL] at hV hfit hfront hused HLN
        have hlen := HLN.out
        rw [hlen] at hV
        have HL := Lib.hid hL
        have HW := Lib.hid hV
        have DE := Lib.hid (fun (N : Nat) (hN0 : 16 ≤ N) (hN1 : N ≤ 1300) W (hW : Below w11.heap.size w11 W) => decode_img _ L m (P * 2) N P ws pl true W (hV.later hW) hlen (by omega) (by omega) hfit hfront hused C8.out hN0 (by omega) C11.out rfl (by omega) c4
          (fun hN => by rw [(C13.out N hN).2.1]; exact c5)
          (fun hN B' h' W' hH hbW => CL.out N hN B' h' W' (by rw [(C13.out N hN).2.1, ← C9.out] at hH; exact hH) ((B10.out.trans (hW.mono B10.out.size)).trans (hbW.mono (by have := B10.out.size; have := hW.size; omega)))))
        have DL := Lib.hid (fun W (hW : Below w11.heap.size w11 W) => decode_least _ L W (hV.later hW))
        clear hV hfit hfront hM hused hL hlen US HV CL C7
        have hww := Below.refl w11.heap.size w11
        have D1 := Lib.hid (DE.out N2 n1 n3 w11 hww)
        clear hww
        go_wp2_with fail
        refine D1.out.mono ?_
        rintro e w12 ⟨X, zz, r, rfl, hg12, hcase⟩
        have hb12 := (hg12.cell (p := ⟨bb, bo, none⟩) bl10).trans hb10
        have H12 := Lib.hid (H10.out.later hg12)
        have G12 := Lib.hid hg12
        have B12 := Lib.hid (B10.out.trans (hg12.mono B10.out.size))
        clear hb10 bl10 hg12 D1
        rcases hcase with ⟨hno, -⟩ | ⟨-, -, rfl, rfl, B', h', hBB, rfl, hback⟩ | ⟨-, hno, -⟩
        · exact absurd hno (by omega)
        · rw [(C13.out N2 n2).2.1, ← C9.out] at hback
          have HK := Lib.hid hback
          have US1 := Lib.hid (used_any _ h' N2 (2 + m) S2 M2 w12 hback)
          have US2 := Lib.hid (used_any _ h 200 (2 + m) S2 M2 w12 H12.out)
          have FR := free_any _ h' N2 (2 + m) S2 M2 w12 hback
          rw [show ((N2 - (2 + m) : Nat) : Int) = (N2 : Int) - (2 + (m : Int)) by omega] at FR
          have FRH := Lib.hid FR
          clear hback FR
          go_wp2_with fail
          refine US1.out.mono ?_
          rintro e w13 ⟨rfl, rfl⟩
          go_wp2_with fail
          refine US2.out.mono ?_
          rintro e w14 ⟨rfl, rfl⟩
          go_wp2_with fail
          refine FRH.out.mono ?_
          rintro e w15 ⟨rfl, hg15⟩
          have US3 := Lib.hid (used_any _ h 200 (2 + m) S2 M2 w15 (H12.out.later hg15))
          have G15 := Lib.hid (G12.out.trans (hg15.mono G12.out.size))
          have B15 := Lib.hid (B12.out.trans (hg15.mono B12.out.size))
          have H15 := Lib.hid (H12.out.later hg15)
          have K15 := Lib.hid (HK.out.later hg15)
          clear hg15 hb12 US1 US2 FRH H12 HK
          go_wp2_with fail
          refine US3.out.mono ?_
          rintro e w16 ⟨rfl, rfl⟩
          go_wp2_with fail
          all_goals try (exfalso; go_light; omega)
          have hw1 := words_one' w16 (P * 2) 49
          have hgn : Below w16.heap.size w16 (w16.alloc (.cells #[.int .u64 ((P * 2 : Nat) : Int)] 49)) := (Below.refl _ w16).alloc (Nat.le_refl _) _
          rw [show ((P * 2 : Nat) : Int) = (P : Int) * 2 by omega] at hw1 hgn
          generalize w16.alloc (.cells #[.int .u64 ((P : Int) * 2)] 49) = w17 at *
          have G17 := Lib.hid (G15.out.trans (hgn.mono G15.out.size))
          have B17 := Lib.hid (B15.out.trans (hgn.mono B15.out.size))
          have H17 := Lib.hid (H15.out.later hgn)
          have K17 := Lib.hid (K15.out.later hgn)
          have ORD := Lib.hid (order_words B' h' N2 (2 + m) S2 M2 [P * 2] _ w17 K17.out (C13.out N2 n2).1 hw1 (fun x hx => by simp at hx; omega) (by simp))
          clear hw1 hgn US3 H15 K15 G15 B15
          refine ORD.out.mono ?_
          rintro e w18 ⟨hcase, hg18⟩
          have G18 := Lib.hid (G17.out.trans (hg18.mono G17.out.size))
          have B18 := Lib.hid (B17.out.trans (hg18.mono B17.out.size))
          have K18 := Lib.hid (K17.out.later hg18)
          have H18 := Lib.hid (H17.out.later hg18)
          clear hg18 ORD
          rcases hcase with ⟨hbad, -⟩ | ⟨T3, nv, nl, hst3, rfl, hnw, hnlen, -⟩
          · exact absurd hbad C12.out.good
          · obtain rfl := hst3.unique C12.out
            have hnlen : nl.length = oln := (hnlen.trans (C13.out N2 n2).2.2).trans HLEN.out.symm
            obtain ⟨na, nc, rfl, -⟩ := (words_of_owns (l := nl) hnw).get
            rw [hnlen]
            clear hst3 hnw hnlen
            have rest : ∀ N3 : Nat, max 15 (2 + (m : Int) - 1) = (N3 : Int) → ∃ r : Int, (r = 8 ∨ r = 2) ∧ ∀ W, Below w11.heap.size w11 W → Calls Tryd.prog 22 #[.slice (some ⟨g, 0, none⟩) (36 + 8 * m) cap, .int .i64 (N3 : Int)] W fun e w' => ∃ (x : Value) (z : Int), e = .returned (.tuple #[x, .int .u64 z, .int .i64 r]) ∧ Below W.heap.size W w' := by
              intro N3 hN3
              by_cases h16 : N3 = 15
              · subst h16
                exact ⟨2, Or.inr rfl, fun W hW => (DL.out W hW).mono fun e w' ⟨h1, h2⟩ => ⟨_, _, h1, h2⟩⟩
              · refine ⟨8, Or.inl rfl, fun W hW => (DE.out N3 (by omega) (by omega) W hW).mono ?_⟩
                rintro e w' ⟨X, z, r, h1, h2, h3⟩
                rcases h3 with ⟨-, rfl, -⟩ | ⟨hh, -⟩ | ⟨hh, -⟩
                · exact ⟨X, z, h1, h2⟩
                · exact absurd hh (by omega)
                · exact absurd hh (by omega)
            obtain ⟨N3, hN3⟩ : ∃ N3 : Nat, max 15 (2 + (m : Int) - 1) = (N3 : Int) := ⟨(max 15 (2 + (m : Int) - 1)).toNat, by omega⟩
            obtain ⟨r3, hr3, D3⟩ := rest N3 hN3
            have DH := Lib.hid (D3 w18 G18.out)
            have HN3 := Lib.hid hN3
            have US4 := Lib.hid (used_any _ h 200 (2 + m) S2 M2 w18 H18.out)
            clear rest D3 hN3 DE DL
            go_wp2_with fail
            refine US4.out.mono ?_
            rintro e w19 ⟨rfl, rfl⟩
            go_upto_region 19 with fail
            rw [HN3.out]
            refine DH.out.mono ?_
            rintro e w20 ⟨X3, z3, rfl, hg20⟩
            have G20 := Lib.hid (G18.out.trans (hg20.mono G18.out.size))
            have B20 := Lib.hid (B18.out.trans (hg20.mono B18.out.size))
            have K20 := Lib.hid (K18.out.later hg20)
            have EN := Lib.hid (encode_big B' h' N2 (2 + m) P S2 M2 w20 K20.out (by omega) (by omega) (by omega) (by omega) c4 c5)
            rw [HL.out] at EN
            clear hg20 DH US4
            rcases hr3 with rfl | rfl
            all_goals
              go_wp2_with fail
              refine EN.out.mono ?_
              rintro e w21 ⟨v21, rfl, ho21, hg21⟩
              have B21 := Lib.hid (B20.out.trans (hg21.mono B20.out.size))
              have G21 := Lib.hid (G20.out.trans (hg21.mono G20.out.size))
              have hv1 := bytes_of_owns ho21
              have hlen := HLN.out
              obtain ⟨g21, cap21, rfl, -, -, hd1, hd2⟩ := ownsB_form ho21 (by omega)
              have s1 := run_string_of hv1
              have s2 := run_string_of (HW.out.later G21.out)
              rw [hlen] at s1 hd1 ⊢
              clear hg21 EN ho21 hv1 hlen
              go_wp2_with fail
              all_goals try (exfalso; go_light; omega)
              go_ret
              exact ⟨by simp, B21.out⟩
        · cases hno
theorem own : ownKnob Tryd.prog.godebug = none := by kernel_rfl
theorem laidOut : laidOutB Tryd.prog = true := by kernel_rfl
set_option maxRecDepth 100000 in
theorem lifted (os : Os) (started : os.Started) (H : Type) (enc : TypeId × Value → H) :
    ReturnsInHanded {} Tryd.checked os 4 .any (fun w args => (Rows.foundlingKeptSpec.pre enc Tryd.prog Tryd.f4 Rows.foundlingKeptRow.domain false w args ∧ laidMet Tryd.prog Rows.foundlingKeptRow.laid w) ∧ sizedMet enc Tryd.prog Tryd.f4 (OpenSpec.ofChange Rows.foundlingKeptSpec) false w args)
      (Rows.foundlingKeptSpec.post enc Tryd.prog Tryd.f4 false true false false) := by
  refine returnsInHanded_of_change_and (C := Tryd.checked) (X := fun w _ => laidMet Tryd.prog Rows.foundlingKeptRow.laid w) (fun _ _ _ hh h => h.of_heap hh) own started (by kernel_rfl) Tryd.func4
    (ChangeSpec.witness_at (enc := enc) (C := Tryd.checked) (os := os) (X := fun w _ => laidMet Tryd.prog Rows.foundlingKeptRow.laid w) false (laidWorld os) #[.agg #[.slice none 0 0, .slice none 0 0], .int .u64 0, .int .i64 0] 8 rfl (by kernel_rfl) (by kernel_rfl) (by kernel_rfl) (by kernel_rfl) (by kernel_rfl) (laid_met os _)) ?_
  intro W base args ds gs before hval0 hW hcnd hsz0 hL _
  have hval : ∀ (j : Nat) t v, Tryd.f4.params[j]? = some t → args[j]? = some v → Value.okWide Tryd.prog W .any base t v := hval0
  have hW' := hW
  obtain ⟨p, q, hA0, hV, rfl, hfz, hnd⟩ := hW
  have hA : DataW.TrodAll enc Tryd.prog W 0 (fun _ => true) true Tryd.f4.params.toList args.toList ds p := hA0
  rw [Tryd.params4] at hA hval
  obtain ⟨v0, vs0, d0, ds0, p0, q0, hargs, rfl, rfl, h0, r0⟩ := trodAll_cons hA
  obtain ⟨v1, vs1, d1, ds1, p1, q1, rfl, rfl, rfl, h1, r1⟩ := trodAll_cons r0
  obtain ⟨v2, vs2, d2, ds2, p2, q2, rfl, rfl, rfl, h2, r2⟩ := trodAll_cons r1
  obtain ⟨rfl, rfl, rfl⟩ := trodAll_nil r2
  obtain rfl : args = #[v0, v1, v2] := by cases args; simp_all
  obtain ⟨rfl, rfl⟩ := trodVars_none hV
  have k0 := h0
  have lt0 : ∀ x ∈ p0, x.block < W.heap.size := by obtain ⟨m, hm⟩ := k0; exact DataW.trod_lt m _ _ _ hm
  have k1 := h1
  have lt1 : ∀ x ∈ p1, x.block < W.heap.size := by obtain ⟨m, hm⟩ := k1; exact DataW.trod_lt m _ _ _ hm
  have k2 := h2
  have lt2 : ∀ x ∈ p2, x.block < W.heap.size := by obtain ⟨m, hm⟩ := k2; exact DataW.trod_lt m _ _ _ hm
  obtain ⟨kv, gv, ks, ls, rfl, hk, hg, hls⟩ := open_graph (hval 0 25 v0 rfl rfl) h0
  obtain ⟨z0, rfl, -, -, hz0⟩ := open_int Tryd.underlying48 (hval 1 48 v1 rfl rfl) h1
  obtain ⟨x, rfl, -, -, hx⟩ := open_int Tryd.underlying3 (hval 2 3 v2 rfl rfl) h2
  have hbz := bounds_u64 hz0
  have hbx := bounds_i64 hx
  obtain ⟨z, rfl⟩ := Int.eq_ofNat_of_zero_le hbz.1
  have hT := tab_of_laid hL
  clear hA0 hval0
  refine (walk kv gv ks ls z x W hk hg hls (by omega) hbx.1 hbx.2 hT).mono fun e W' ⟨he, bel⟩ => ?_
  subst he
  exact ⟨_, rfl, _, _, _, [], _, [], hW', trodAll_mk1 (shut_bool Tryd.underlying4 _), (trodAll_cons_mk (Below.trod laidOut (by kernel_rfl) (of_decide_eq_true (by kernel_rfl)) k0 bel lt0) (trodAll_cons_mk (Below.trod laidOut (by kernel_rfl) (of_decide_eq_true (by kernel_rfl)) k1 bel lt1) (trodAll_cons_mk (Below.trod laidOut (by kernel_rfl) (of_decide_eq_true (by kernel_rfl)) k2 bel lt2) trodAll_mk0))), rfl, bel.frame _, fun h => by cases h⟩
theorem over : Rows.foundlingKeptRow.holds Tryd.pinned (OpenSpec.ofChange Rows.foundlingKeptSpec) :=
  OpenClaim.holds_of_wide 4 Tryd.f4 rfl rfl rfl rfl rfl rfl rfl ⟨rfl, rfl, rfl, rfl, rfl⟩ rfl rfl rfl rfl rfl (by kernel_rfl) Tryd.func4 (by kernel_rfl)
    (of_decide_eq_true (by kernel_rfl)) (by unfold Func.isWrapper; rw [if_neg (by decide +kernel)]; exact ⟨rfl, rfl⟩)
    (fun os started H enc _ => lifted os started H enc)
theorem proved : Rows.FoundlingKeptCardSaid :=
  Claim7.holds_tied_plain_at .later [] [.data] true (true, "2bfd3325b18338b1a843f393c3323a8e76af83e533ae781857a8cea369f6755a") false
    over (fun _ h => by cases h) (by kernel_rfl) (fun _ h => by cases h) foundlingKept_row_tie rfl ⟨rfl, rfl⟩ (by kernel_rfl) rfl
    (fun f fn hf hfn => by
      obtain rfl : f = 4 := Option.some.inj ((show Tryd.prog.funcNamed "foundling/foundlingtop.FoundlingKept" = some 4 by kernel_rfl).symm.trans hf) |>.symm
      obtain rfl : fn = Tryd.f4 := (Option.some.inj (Tryd.func4.symm.trans hfn)).symm
      exact ⟨by kernel_rfl, fun j t ht => by
        have hall : (Tryd.f4.params.all fun t => !Tryd.prog.wantsStandIn t) = true := by kernel_rfl
        rw [Array.all_eq_true_iff_forall_mem] at hall
        have := hall t (Array.mem_of_getElem? ht)
        show Tryd.prog.wantsStandIn t = false
        simpa using this⟩)
    (by kernel_rfl)
end Go.Proofs.YtffbhocgjpdjpaaDoor.foundlingKept
