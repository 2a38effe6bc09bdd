/- ImageSizes: an image has 36 bytes, and 8 for each cell that is used; in fewer cells than that it is not loaded: for every graph and number of cells. -/
import Derived.Test.YtaillinlbbhdkaaDoorImgG
import Derived.Test.YtaillinlbbhdkaaDoorLoadF
import Derived.Lib.MinMax
import Derived.Test.YtaillinlbbhdkaaDoorLayOpen
import Derived.Test.YtaillinlbbhdkaaDoorTie
import Derived.Test.YtaillinlbbhdkaaDoorCards
import Derived.ChangeOld
namespace Go.Proofs.YtaillinlbbhdkaaDoor.imageSizes
open Go.ChangeShapes Go.WideShapes Go.ChangeAt Go.RowKit
set_option linter.unusedVariables false
set_option maxRecDepth 100000 in
set_option maxHeartbeats 1600000 in
theorem walk (kv gv : Value) (ks : List Int) (ls : List Nat) (x : Int) (w : World) (hk : NumsAt w .i64 kv ks) (hg : WordsAt w gv ls) (hls : ∀ x, x ∈ ls → x < 18446744073709551616) (hx0 : -9223372036854775808 ≤ x) (hx1 : x ≤ 9223372036854775807)
    (hT : TabAt 0 Lib.deBruijn64tab w) :
    Calls Tryd.prog 4 #[.agg #[kv, gv], .int .i64 x] w fun e w' => e = .returned (.bool true) ∧ Below w.heap.size w w' := by
  have AW := Lib.hid (fun W (hW : Below w.heap.size w W) => awake7 W (tab_later hT hW))
  have LY := Lib.hid (fun W (hW : Below w.heap.size w W) => lay_any kv gv ks ls W (hk.later hW) (hg.later hW) hls)
  have HT := Lib.hid hT
  obtain ⟨ka, kcap, rfl, -⟩ := id hk
  obtain ⟨ga, gcap, rfl, -⟩ := id hg
  clear hk hg hls hT
  go_enter Tryd.func4, Tryd.ntmps4
  go_wp2_with fail
  obtain ⟨w1, hw1⟩ : ∃ w1, w1 = w.alloc (.cells #[.slice ka ks.length kcap, .slice ga ls.length gcap] 25) := ⟨_, rfl⟩
  rw [← hw1]
  have hh1 : w1.heap[w.heap.size]? = some (.cells #[.slice ka ks.length kcap, .slice ga ls.length gcap] 25 (0, 0)) := by rw [hw1]; exact heap_alloc_new w _
  have hb1 : Below w.heap.size w w1 := by rw [hw1]; exact (Below.refl _ w).alloc (Nat.le_refl _) _
  clear hw1
  refine (AW.out w1 hb1).mono ?_
  rintro e w2 ⟨rfl, hg2⟩
  have hh2 := (hg2.block _ (Array.getElem?_eq_some_iff.1 hh1).1).trans hh1
  have hb2 := hb1.trans (hg2.mono hb1.size)
  have y0 := cellO hh2 0
  have y1 := cellO hh2 1
  simp at y0 y1
  have m2 : w.heap.size < w2.heap.size := (Array.getElem?_eq_some_iff.1 hh2).1
  have B2 := Lib.hid hb2
  clear hg2 hh2 hb2 hh1 hb1
  go_wp2_with fail
  refine (LY.out w2 B2.out).mono ?_
  rintro e w3 ⟨h, lv, os, free, S, M, E, rfl, hh3, hlay, hol, hro, hg3⟩
  obtain ⟨la, lc, xs, rfl, -⟩ := hro
  have hfr := hlay.most
  have hS0 : S 0 = false := by
    cases h0 : S 0 with
    | false => rfl
    | true => obtain ⟨i, o, ho, ho0⟩ := hlay.only 0 h0; have := (hlay.obj i o ho).two; omega
  have HS0 := Lib.hid hS0
  have HLAY := Lib.hid hlay
  have hfree : ∃ m, free = 2 + m := ⟨free - 2, by have := hlay.two; omega⟩
  have h2f := hlay.two
  have B3 := Lib.hid (B2.out.trans (hg3.mono B2.out.size))
  have HH3 := Lib.hid hh3
  clear hh3 hlay hg3 y0 y1 hS0
  by_cases hos : os.length = 0
  · rw [hos]
    go_wp2_with fail
    go_ret
    exact ⟨rfl, B3.out.trans ((Below.refl _ w3).alloc B3.out.size _)⟩
  · obtain ⟨w4, hw4⟩ : ∃ w4, w4 = w3.alloc (.cells #[.int .i64 200, .slice la os.length lc, .int .u32 0] 31) := ⟨_, rfl⟩
    have hb4 : Below w3.heap.size w3 w4 := by rw [hw4]; exact (Below.refl _ w3).alloc (Nat.le_refl _) _
    have HH4 := Lib.hid (HH3.out.later hb4)
    have B4 := Lib.hid (B3.out.trans (hb4.mono B3.out.size))
    have FI := Lib.hid (first_any _ h 200 free S M w4 HH4.out (by omega) HS0.out (tab_later HT.out B4.out))
    rw [hw4] at FI
    clear hb4
    have HW4 := Lib.hid hw4
    clear hw4
    go_wp2_with fail
    all_goals try (exfalso; go_light; omega)
    refine FI.out.mono ?_
    rintro e w5 ⟨p, rfl, hp, hg5⟩
    rw [← HW4.out] at hg5
    have HH5 := Lib.hid (HH4.out.later hg5)
    have B5 := Lib.hid (B4.out.trans (hg5.mono B4.out.size))
    clear hg5 FI
    obtain ⟨k, hpk, hSk, hk1, hkN⟩ : ∃ k : Nat, (p : Int) = (k : Int) * 2 ∧ S k = true ∧ 1 ≤ k ∧ k < 200 := by
      rcases hp with ⟨-, hno⟩ | ⟨k, rfl, hkN, -, hSk, -⟩
      · exfalso
        obtain ⟨o, ho⟩ : ∃ o, os[0]? = some o := ⟨os[0]'(by omega), List.getElem?_eq_getElem (by omega)⟩
        have hL := HLAY.out.obj 0 o ho
        have h1 := hL.here
        have h2 := hL.fit
        rw [hno o.at_ (by omega) (by omega)] at h1
        cases h1
      · refine ⟨k, by omega, hSk, ?_, hkN⟩
        by_cases hk0 : k = 0
        · subst hk0; rw [HS0.out] at hSk; cases hSk
        · omega
    rw [hpk]
    clear hpk hp
    have EN := Lib.hid (encode_yes _ h 200 free k S M w5 HH5.out h2f (by omega) hk1 (by omega) hSk)
    have HSK := Lib.hid hSk
    clear hSk
    go_wp2_with fail
    refine EN.out.mono ?_
    rintro e w6 ⟨v6, rfl, ho6, hg6⟩
    have HH6 := Lib.hid (HH5.out.later hg6)
    have B6 := Lib.hid (B5.out.trans (hg6.mono B5.out.size))
    have hM : ∀ i, M i < 18446744073709551616 := by obtain ⟨g, s, -, -, -, -, -, -, -, h, -⟩ := HH5.out; exact h
    have hpos : ∃ o, os[0]? = some o := ⟨os[0]'(by omega), List.getElem?_eq_getElem (by omega)⟩
    obtain ⟨o0, ho0⟩ := hpos
    have hL0 := HLAY.out.obj 0 o0 ho0
    have hm1 : 4 ≤ free := by have h1 := hL0.two; have h2 := hL0.fit; omega
    obtain ⟨m, hm⟩ := hfree
    have hfm : free - 2 = m := by omega
    have hlen := imgL_len M free (k * 2)
    rw [hfm] at hlen
    have HV := bytes_of_owns ho6
    obtain ⟨g, cap, rfl, hgB, hgl, hc1, hc2⟩ := ownsB_form ho6 (by omega)
    have hfit := imgL_fits M free (k * 2)
    have hfront := imgL_front M free (k * 2) (by omega) (by omega)
    have hused := imgL_used M free (k * 2) hM
    rw [hfm] at hfront hused
    have hchain := HLAY.out.chain
    have hMM := fun j hj => loadM_used (M := M) (free := free) HLAY.out.zero j hj
    have hS2 : ∀ a, S a = true → 2 ≤ a := fun a ha => by
      obtain ⟨i, o, ho, rfl⟩ := HLAY.out.only a ha
      exact (HLAY.out.obj i o ho).two
    obtain ⟨c, hcc⟩ : ∃ c : Bool, (c = true ↔ ClosedP S M) := by
      by_cases hcp : ClosedP S M
      · exact ⟨true, fun _ => hcp, fun _ => rfl⟩
      · exact ⟨false, fun h => (by cases h), fun h => absurd h hcp⟩
    have DE := Lib.hid (fun (N : Nat) (hN0 : 16 ≤ N) (hN1 : N ≤ 300) => decode_img _ (imgL M free (k * 2)) m (k * 2) N k (usedL M free) (os.map (·.at_)) c w6 HV hlen (by omega) (by omega) hfit hfront hused (usedL_small hM free) hN0 (by omega)
      (by rw [← hm]; exact hchain.congr hMM (Nat.le_refl _)) rfl hk1 (by omega) (fun hN => by rw [HLAY.out.setAll_eq (by omega)]; exact HSK.out)
      (fun hN B' h' W hW hbW => by
        rw [HLAY.out.setAll_eq (by omega)] at hW
        refine (closed_any B' h' N (2 + m) S _ W hW (HLAY.out.goodN (by omega) hMM) HS0.out (tab_later HT.out (B6.out.trans (hbW.mono B6.out.size)))).mono ?_
        rintro e w' ⟨b, rfl, hb, hg⟩
        rw [show b = c from Bool.eq_iff_iff.2 ((hb.trans (ClosedP.congr hS2 hMM)).trans hcc.symm)]
        exact ⟨rfl, hg⟩))
    have CLO := Lib.hid (fun W (hH : HeapAt W (w2.heap.size + 2) h 200 free S M) (hbW : Below w.heap.size w W) => (show Calls Tryd.prog 11 #[.pointer (some ⟨h, 0, none⟩)] W fun e w' => e = .returned (.bool c) ∧ Below W.heap.size W w' from by
      refine (closed_any _ h 200 free S M W hH (HLAY.out.goodN (by omega) (fun _ _ => rfl)) HS0.out (tab_later HT.out hbW)).mono ?_
      rintro e w' ⟨b, rfl, hb, hg⟩
      rw [show b = c from Bool.eq_iff_iff.2 (hb.trans hcc.symm)]
      exact ⟨rfl, hg⟩))
    rw [hlen] at DE hc1 ⊢
    have US := Lib.hid (used_any _ h 200 free S M w6 HH6.out)
    have HFM := Lib.hid hm
    have hfI : ((36 + 8 * m : Nat) : Int) = 36 + 8 * ((free : Int) - 2) := by omega
    clear ho6 hL0 ho0 hM hlen HV hfit hfront hused hchain hMM hS2 hcc hfm hm EN hg6
    go_wp2_with fail
    refine US.out.mono ?_
    rintro e w7 ⟨rfl, rfl⟩
    go_upto_region 9 with fail
    all_goals try (exfalso; go_light; omega)
    clear US AW LY
    go_cut [1] from 48 to 50 (fun s1 wx => ∃ N : Nat, s1 = .int .i64 (N : Int) ∧ 16 ≤ N ∧ N ≤ 300 ∧ wx = w7)
    case first =>
      by_cases h3 : (300 : Int) ≤ x
      · have e1 : min x 300 = 300 := by omega
        go_wp2_with fail
        all_goals go_meet
        all_goals exact ⟨300, by simp; try omega, by omega, by omega, rfl⟩
      · by_cases h16 : x ≤ 16
        · have e1 : min x 300 = x := by omega
          have e2 : max 16 x = 16 := by omega
          go_wp2_with fail
          all_goals go_meet
          all_goals exact ⟨16, by simp; try omega, by omega, by omega, rfl⟩
        · have e1 : min x 300 = x := by omega
          have e2 : max 16 x = x := by omega
          obtain ⟨N, hN⟩ := Int.eq_ofNat_of_zero_le (show 0 ≤ x by omega)
          go_wp2_with fail
          all_goals go_meet
          all_goals exact ⟨N, by simp; try omega, by omega, by omega, rfl⟩
    case rest =>
      obtain ⟨N, rfl, hN0, hN1, hwc⟩ := hcut
      rw [hwc]
      clear hwc
      have DEN := Lib.hid (DE.out N hN0 hN1)
      clear DE
      go_wp2_with fail
      refine DEN.out.mono ?_
      rintro e w8 ⟨X, z, r, rfl, hg8, hcase⟩
      have B8 := Lib.hid (B6.out.trans (hg8.mono B6.out.size))
      have HH8 := Lib.hid (HH6.out.later hg8)
      have CLQ := Lib.hid (CLO.out w8 HH8.out B8.out)
      clear hg8 DEN CLO
      rcases hcase with ⟨hNm, rfl, rfl⟩ | ⟨hNm, rfl, rfl, rfl, B', h', -, rfl, -⟩ | ⟨hNm, rfl, rfl, rfl⟩
      · go_wp2_with fail
        refine CLQ.out.mono ?_
        rintro e w9 ⟨rfl, hg9⟩
        have B9 := Lib.hid (B8.out.trans (hg9.mono B8.out.size))
        have US := Lib.hid (used_any _ h 200 free S M w9 (HH8.out.later hg9))
        clear hg9 CLQ
        cases c with
        | false =>
          go_wp2_with fail
          go_ret
          exact ⟨rfl, B9.out⟩
        | true =>
          have hlt : ¬ (free : Int) ≤ N := by have := HFM.out; omega
          go_wp2_with fail
          refine US.out.mono ?_
          rintro e w10 ⟨rfl, rfl⟩
          go_wp2_with fail
          all_goals try (exfalso; go_light; omega)
          go_ret
          exact ⟨rfl, B9.out⟩
      · go_wp2_with fail
        refine CLQ.out.mono ?_
        rintro e w9 ⟨rfl, hg9⟩
        have B9 := Lib.hid (B8.out.trans (hg9.mono B8.out.size))
        have US := Lib.hid (used_any _ h 200 free S M w9 (HH8.out.later hg9))
        clear hg9 CLQ
        have hlt : (free : Int) ≤ N := by have := HFM.out; omega
        go_wp2_with fail
        refine US.out.mono ?_
        rintro e w10 ⟨rfl, rfl⟩
        go_wp2_with fail
        all_goals try (exfalso; go_light; omega)
        go_ret
        exact ⟨rfl, B9.out⟩
      · go_wp2_with fail
        refine CLQ.out.mono ?_
        rintro e w9 ⟨rfl, hg9⟩
        have B9 := Lib.hid (B8.out.trans (hg9.mono B8.out.size))
        clear hg9 CLQ
        go_wp2_with fail
        all_goals try (exfalso; go_light; omega)
        go_ret
        exact ⟨rfl, B9.out⟩
theorem own : ownKnob Tryd.prog.godebug = none := by kernel_rfl
theorem laidOut : laidOutB Tryd.prog = true := by kernel_rfl
set_option maxRecDepth 100000 in
theorem lifted (os : Os) (started : os.Started) (H : Type) (enc : TypeId × Value → H) :
    ReturnsInHanded {} Tryd.checked os 4 .any (fun w args => (Rows.imageSizesSpec.pre enc Tryd.prog Tryd.f4 Rows.imageSizesRow.domain false w args ∧ laidMet Tryd.prog Rows.imageSizesRow.laid w) ∧ sizedMet enc Tryd.prog Tryd.f4 (OpenSpec.ofChange Rows.imageSizesSpec) false w args)
      (Rows.imageSizesSpec.post enc Tryd.prog Tryd.f4 false true false false) := by
  refine returnsInHanded_of_change_and (C := Tryd.checked) (X := fun w _ => laidMet Tryd.prog Rows.imageSizesRow.laid w) (fun _ _ _ hh h => h.of_heap hh) own started (by kernel_rfl) Tryd.func4
    (ChangeSpec.witness_at (enc := enc) (C := Tryd.checked) (os := os) (X := fun w _ => laidMet Tryd.prog Rows.imageSizesRow.laid w) false (laidWorld os) #[.agg #[.slice none 0 0, .slice none 0 0], .int .i64 0] 8 rfl (by kernel_rfl) (by kernel_rfl) (by kernel_rfl) (by kernel_rfl) (by kernel_rfl) (laid_met os _)) ?_
  intro W base args ds gs before hval0 hW hcnd hsz0 hL _
  have hval : ∀ (j : Nat) t v, Tryd.f4.params[j]? = some t → args[j]? = some v → Value.okWide Tryd.prog W .any base t v := hval0
  have hW' := hW
  obtain ⟨p, q, hA0, hV, rfl, hfz, hnd⟩ := hW
  have hA : DataW.TrodAll enc Tryd.prog W 0 (fun _ => true) true Tryd.f4.params.toList args.toList ds p := hA0
  rw [Tryd.params4] at hA hval
  obtain ⟨v0, vs0, d0, ds0, p0, q0, hargs, rfl, rfl, h0, r0⟩ := trodAll_cons hA
  obtain ⟨v1, vs1, d1, ds1, p1, q1, rfl, rfl, rfl, h1, r1⟩ := trodAll_cons r0
  obtain ⟨rfl, rfl, rfl⟩ := trodAll_nil r1
  obtain rfl : args = #[v0, v1] := by cases args; simp_all
  obtain ⟨rfl, rfl⟩ := trodVars_none hV
  have k0 := h0
  have lt0 : ∀ x ∈ p0, x.block < W.heap.size := by obtain ⟨m, hm⟩ := k0; exact DataW.trod_lt m _ _ _ hm
  have k1 := h1
  have lt1 : ∀ x ∈ p1, x.block < W.heap.size := by obtain ⟨m, hm⟩ := k1; exact DataW.trod_lt m _ _ _ hm
  obtain ⟨kv, gv, ks, ls, rfl, hk, hg, hls⟩ := open_graph (hval 0 25 v0 rfl rfl) h0
  obtain ⟨x, rfl, -, -, hx⟩ := open_int Tryd.underlying3 (hval 1 3 v1 rfl rfl) h1
  have hbx := bounds_i64 hx
  have hT := tab_of_laid hL
  clear hA0 hval0
  refine (walk kv gv ks ls x W hk hg hls hbx.1 hbx.2 hT).mono fun e W' ⟨he, bel⟩ => ?_
  subst he
  exact ⟨_, rfl, _, _, _, [], _, [], hW', trodAll_mk1 (shut_bool Tryd.underlying4 _), (trodAll_cons_mk (Below.trod laidOut (by kernel_rfl) (of_decide_eq_true (by kernel_rfl)) k0 bel lt0) (trodAll_cons_mk (Below.trod laidOut (by kernel_rfl) (of_decide_eq_true (by kernel_rfl)) k1 bel lt1) trodAll_mk0)), rfl, bel.frame _, fun h => by cases h⟩
theorem over : Rows.imageSizesRow.holds Tryd.pinned (OpenSpec.ofChange Rows.imageSizesSpec) :=
  OpenClaim.holds_of_wide 4 Tryd.f4 rfl rfl rfl rfl rfl rfl rfl ⟨rfl, rfl, rfl, rfl, rfl⟩ rfl rfl rfl rfl rfl (by kernel_rfl) Tryd.func4 (by kernel_rfl)
    (of_decide_eq_true (by kernel_rfl)) (by unfold Func.isWrapper; rw [if_neg (by decide +kernel)]; exact ⟨rfl, rfl⟩)
    (fun os started H enc _ => lifted os started H enc)
theorem proved : Rows.ImageSizesCardSaid :=
  Claim7.holds_tied_plain_at .later [] [.data] true (true, "93259984f5d30a4ec8d4848ceeffb61a689af0d029039f8539ce3703432383ab") false
    over (fun _ h => by cases h) (by kernel_rfl) (fun _ h => by cases h) imageSizes_row_tie rfl ⟨rfl, rfl⟩ (by kernel_rfl) rfl
    (fun f fn hf hfn => by
      obtain rfl : f = 4 := Option.some.inj ((show Tryd.prog.funcNamed "foundling/foundlinglaw07.ImageSizes" = some 4 by kernel_rfl).symm.trans hf) |>.symm
      obtain rfl : fn = Tryd.f4 := (Option.some.inj (Tryd.func4.symm.trans hfn)).symm
      exact ⟨by kernel_rfl, fun j t ht => by
        have hall : (Tryd.f4.params.all fun t => !Tryd.prog.wantsStandIn t) = true := by kernel_rfl
        rw [Array.all_eq_true_iff_forall_mem] at hall
        have := hall t (Array.mem_of_getElem? ht)
        show Tryd.prog.wantsStandIn t = false
        simpa using this⟩)
    (by kernel_rfl)
end Go.Proofs.YtaillinlbbhdkaaDoor.imageSizes
