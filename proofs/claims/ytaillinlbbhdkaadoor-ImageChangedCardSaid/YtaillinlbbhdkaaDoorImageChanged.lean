/- ImageChanged: an image with one byte that is another one is refused: for every graph, place and byte. -/
import Derived.Test.YtaillinlbbhdkaaDoorImgG
import Derived.Test.YtaillinlbbhdkaaDoorLayOpen
import Derived.Test.YtaillinlbbhdkaaDoorTie
import Derived.Test.YtaillinlbbhdkaaDoorCards
import Derived.ChangeOld
namespace Go.Proofs.YtaillinlbbhdkaaDoor.imageChanged
open Go.ChangeShapes Go.WideShapes Go.ChangeAt Go.RowKit
set_option linter.unusedVariables false
theorem tmod_bdn (x : Int) (n : Nat) (hn : 0 < n) : -(n : Int) < x.tmod n ∧ x.tmod n < n := by
  cases x with
  | ofNat m =>
    show -(n : Int) < ((m % n : Nat) : Int) ∧ ((m % n : Nat) : Int) < n
    have := Nat.mod_lt m hn
    omega
  | negSucc m =>
    show -(n : Int) < -(((m + 1) % n : Nat) : Int) ∧ -(((m + 1) % n : Nat) : Int) < n
    have := Nat.mod_lt (m + 1) hn
    omega
set_option maxRecDepth 100000 in
set_option maxHeartbeats 1600000 in
theorem walk (kv gv : Value) (ks : List Int) (ls : List Nat) (x : Int) (c : UInt8) (w : World) (hk : NumsAt w .i64 kv ks) (hg : WordsAt w gv ls) (hls : ∀ x, x ∈ ls → x < 18446744073709551616) (hx0 : -9223372036854775808 ≤ x) (hx1 : x ≤ 9223372036854775807)
    (hT : TabAt 0 Lib.deBruijn64tab w) :
    Calls Tryd.prog 3 #[.agg #[kv, gv], .int .i64 x, .int .u8 (c.toNat : Int)] w fun e w' => e = .returned (.bool true) ∧ Below w.heap.size w w' := by
  have AW := Lib.hid (fun W (hW : Below w.heap.size w W) => awake7 W (tab_later hT hW))
  have LY := Lib.hid (fun W (hW : Below w.heap.size w W) => lay_any kv gv ks ls W (hk.later hW) (hg.later hW) hls)
  have HT := Lib.hid hT
  obtain ⟨ka, kcap, rfl, -⟩ := id hk
  obtain ⟨ga, gcap, rfl, -⟩ := id hg
  clear hk hg hls hT
  go_enter Tryd.func3, Tryd.ntmps3
  go_wp2_with fail
  obtain ⟨w1, hw1⟩ : ∃ w1, w1 = w.alloc (.cells #[.slice ka ks.length kcap, .slice ga ls.length gcap] 25) := ⟨_, rfl⟩
  rw [← hw1]
  have hh1 : w1.heap[w.heap.size]? = some (.cells #[.slice ka ks.length kcap, .slice ga ls.length gcap] 25 (0, 0)) := by rw [hw1]; exact heap_alloc_new w _
  have hb1 : Below w.heap.size w w1 := by rw [hw1]; exact (Below.refl _ w).alloc (Nat.le_refl _) _
  clear hw1
  refine (AW.out w1 hb1).mono ?_
  rintro e w2 ⟨rfl, hg2⟩
  have hh2 := (hg2.block _ (Array.getElem?_eq_some_iff.1 hh1).1).trans hh1
  have hb2 := hb1.trans (hg2.mono hb1.size)
  have y0 := cellO hh2 0
  have y1 := cellO hh2 1
  simp at y0 y1
  have m2 : w.heap.size < w2.heap.size := (Array.getElem?_eq_some_iff.1 hh2).1
  have B2 := Lib.hid hb2
  clear hg2 hh2 hb2 hh1 hb1
  go_wp2_with fail
  refine (LY.out w2 B2.out).mono ?_
  rintro e w3 ⟨h, lv, os, free, S, M, E, rfl, hh3, hlay, hol, hro, hg3⟩
  obtain ⟨la, lc, xs, rfl, -⟩ := hro
  have hfr := hlay.most
  have hS0 : S 0 = false := by
    cases h0 : S 0 with
    | false => rfl
    | true => obtain ⟨i, o, ho, ho0⟩ := hlay.only 0 h0; have := (hlay.obj i o ho).two; omega
  have HS0 := Lib.hid hS0
  have HLAY := Lib.hid hlay
  have h2f := hlay.two
  have B3 := Lib.hid (B2.out.trans (hg3.mono B2.out.size))
  have HH3 := Lib.hid hh3
  clear hh3 hlay hg3 y0 y1 hS0
  by_cases hos : os.length = 0
  · rw [hos]
    go_wp2_with fail
    go_ret
    exact ⟨rfl, B3.out.trans ((Below.refl _ w3).alloc B3.out.size _)⟩
  · obtain ⟨w4, hw4⟩ : ∃ w4, w4 = w3.alloc (.cells #[.int .i64 200, .slice la os.length lc, .int .u32 0] 31) := ⟨_, rfl⟩
    have hb4 : Below w3.heap.size w3 w4 := by rw [hw4]; exact (Below.refl _ w3).alloc (Nat.le_refl _) _
    have HH4 := Lib.hid (HH3.out.later hb4)
    have B4 := Lib.hid (B3.out.trans (hb4.mono B3.out.size))
    have FI := Lib.hid (first_any _ h 200 free S M w4 HH4.out (by omega) HS0.out (tab_later HT.out B4.out))
    rw [hw4] at FI
    clear hb4
    have HW4 := Lib.hid hw4
    clear hw4
    go_wp2_with fail
    all_goals try (exfalso; go_light; omega)
    refine FI.out.mono ?_
    rintro e w5 ⟨p, rfl, hp, hg5⟩
    rw [← HW4.out] at hg5
    have HH5 := Lib.hid (HH4.out.later hg5)
    have B5 := Lib.hid (B4.out.trans (hg5.mono B4.out.size))
    clear hg5 FI
    obtain ⟨k, hpk, hSk, hk1, hkN⟩ : ∃ k : Nat, (p : Int) = (k : Int) * 2 ∧ S k = true ∧ 1 ≤ k ∧ k < 200 := by
      rcases hp with ⟨-, hno⟩ | ⟨k, rfl, hkN, -, hSk, -⟩
      · exfalso
        obtain ⟨o, ho⟩ : ∃ o, os[0]? = some o := ⟨os[0]'(by omega), List.getElem?_eq_getElem (by omega)⟩
        have hL := HLAY.out.obj 0 o ho
        have h1 := hL.here
        have h2 := hL.fit
        rw [hno o.at_ (by omega) (by omega)] at h1
        cases h1
      · refine ⟨k, by omega, hSk, ?_, hkN⟩
        by_cases hk0 : k = 0
        · subst hk0; rw [HS0.out] at hSk; cases hSk
        · omega
    rw [hpk]
    clear hpk hp
    have EN := Lib.hid (encode_yes _ h 200 free k S M w5 HH5.out h2f (by omega) hk1 (by omega) hSk)
    clear hSk
    go_wp2_with fail
    refine EN.out.mono ?_
    rintro e w6 ⟨v6, rfl, ho6, hg6⟩
    have hn := imgL_len M free (k * 2)
    have CU := Lib.hid (fun i c hi hne => changed_unfit M free (k * 2) i c hi hne)
    obtain ⟨L, hL⟩ : ∃ L, L = imgL M free (k * 2) := ⟨_, rfl⟩
    rw [← hL] at ho6 hn CU
    clear hL
    have HN := Lib.hid hn
    have hn1 : 36 ≤ L.length := by omega
    have hn2 : L.length ≤ 3000 := by omega
    clear hn
    obtain ⟨g, cap, rfl, hgB, hgl, hc1, hc2⟩ := ownsB_form ho6 (by omega)
    have HO6 := Lib.hid ho6
    have B6 := Lib.hid (B5.out.trans (hg6.mono B5.out.size))
    clear EN hg6 ho6
    have hm5 : w.heap.size ≤ w5.heap.size := B5.out.size
    obtain ⟨i, hi, hiL⟩ : ∃ i : Nat, (x.tmod (L.length : Int) + (L.length : Int)).tmod (L.length : Int) = (i : Int) ∧ i < L.length := by
      have a1 := tmod_bdn x L.length (by omega)
      have a2 := tmod_bdn (x.tmod (L.length : Int) + (L.length : Int)) L.length (by omega)
      have a3 : 0 ≤ (x.tmod (L.length : Int) + (L.length : Int)).tmod (L.length : Int) := Int.tmod_nonneg _ (by omega)
      exact ⟨((x.tmod (L.length : Int) + (L.length : Int)).tmod (L.length : Int)).toNat, by omega, by omega⟩
    have a1 := tmod_bdn x L.length (by omega)
    unfold maxLen at hc2
    have hcg := ownsB_cell HO6.out i hiL
    have hfg := World.ownsRow.frozenAt HO6.out i
    go_upto_region 10 with fail
    all_goals try (exfalso; go_light; omega)
    have hm4 : w.heap.size ≤ g := by omega
    by_cases hcmp : L[i]'hiL = c
    · have hq : (((L[i]'hiL).toNat : Int) == (c.toNat : Int)) = true := by rw [hcmp]; exact beq_self_eq_true _
      go_wp2_with fail
      all_goals try (exfalso; go_light; omega)
      go_ret
      exact ⟨rfl, B6.out⟩
    · have hq : (((L[i]'hiL).toNat : Int) == (c.toNat : Int)) = false := by
        refine beq_eq_false_iff_ne.2 fun e => hcmp (UInt8.toNat_inj.1 (by omega))
      have HB7 := Lib.hid (bytes_of_owns (ownsB_set HO6.out i c))
      have B7 := Lib.hid (B6.out.setCell (p := ⟨g, i, none⟩) hm4 (.int .u8 (c.toNat : Int)))
      have HU := CU i c hiL hcmp
      clear CU hcmp
      go_upto_region 13 with fail
      all_goals try (exfalso; go_light; omega)
      obtain ⟨w7, hw7⟩ : ∃ z, z = w6.setCell ⟨g, i, none⟩ (.int .u8 (c.toNat : Int)) := ⟨_, rfl⟩
      rw [← hw7] at HB7 B7
      rw [← hw7]
      clear hw7 hcg hfg
      have DE := Lib.hid (decode_bad _ (L.set i c) (free - 2) w7 HB7.out (by rw [List.length_set]; exact HN.out) (by omega) HU)
      clear HU
      go_wp2_with fail
      refine DE.out.mono ?_
      rintro e w8 ⟨z, rfl, hz, hg8⟩
      have B8 := Lib.hid (B7.out.trans (hg8.mono B7.out.size))
      have hz1 : (z != 0) = true := bne_iff_ne.2 hz
      have hz2 : (z == 0) = false := beq_eq_false_iff_ne.2 hz
      clear hg8 DE
      go_wp2_with fail
      all_goals try (exfalso; go_light; omega)
      go_ret
      exact ⟨rfl, B8.out⟩
theorem own : ownKnob Tryd.prog.godebug = none := by kernel_rfl
theorem laidOut : laidOutB Tryd.prog = true := by kernel_rfl
set_option maxRecDepth 100000 in
theorem lifted (os : Os) (started : os.Started) (H : Type) (enc : TypeId × Value → H) :
    ReturnsInHanded {} Tryd.checked os 3 .any (fun w args => (Rows.imageChangedSpec.pre enc Tryd.prog Tryd.f3 Rows.imageChangedRow.domain false w args ∧ laidMet Tryd.prog Rows.imageChangedRow.laid w) ∧ sizedMet enc Tryd.prog Tryd.f3 (OpenSpec.ofChange Rows.imageChangedSpec) false w args)
      (Rows.imageChangedSpec.post enc Tryd.prog Tryd.f3 false true false false) := by
  refine returnsInHanded_of_change_and (C := Tryd.checked) (X := fun w _ => laidMet Tryd.prog Rows.imageChangedRow.laid w) (fun _ _ _ hh h => h.of_heap hh) own started (by kernel_rfl) Tryd.func3
    (ChangeSpec.witness_at (enc := enc) (C := Tryd.checked) (os := os) (X := fun w _ => laidMet Tryd.prog Rows.imageChangedRow.laid w) false (laidWorld os) #[.agg #[.slice none 0 0, .slice none 0 0], .int .i64 0, .int .u8 0] 8 rfl (by kernel_rfl) (by kernel_rfl) (by kernel_rfl) (by kernel_rfl) (by kernel_rfl) (laid_met os _)) ?_
  intro W base args ds gs before hval0 hW hcnd hsz0 hL _
  have hval : ∀ (j : Nat) t v, Tryd.f3.params[j]? = some t → args[j]? = some v → Value.okWide Tryd.prog W .any base t v := hval0
  have hW' := hW
  obtain ⟨p, q, hA0, hV, rfl, hfz, hnd⟩ := hW
  have hA : DataW.TrodAll enc Tryd.prog W 0 (fun _ => true) true Tryd.f3.params.toList args.toList ds p := hA0
  rw [Tryd.params3] at hA hval
  obtain ⟨v0, vs0, d0, ds0, p0, q0, hargs, rfl, rfl, h0, r0⟩ := trodAll_cons hA
  obtain ⟨v1, vs1, d1, ds1, p1, q1, rfl, rfl, rfl, h1, r1⟩ := trodAll_cons r0
  obtain ⟨v2, vs2, d2, ds2, p2, q2, rfl, rfl, rfl, h2, r2⟩ := trodAll_cons r1
  obtain ⟨rfl, rfl, rfl⟩ := trodAll_nil r2
  obtain rfl : args = #[v0, v1, v2] := by cases args; simp_all
  obtain ⟨rfl, rfl⟩ := trodVars_none hV
  have k0 := h0
  have lt0 : ∀ x ∈ p0, x.block < W.heap.size := by obtain ⟨m, hm⟩ := k0; exact DataW.trod_lt m _ _ _ hm
  have k1 := h1
  have lt1 : ∀ x ∈ p1, x.block < W.heap.size := by obtain ⟨m, hm⟩ := k1; exact DataW.trod_lt m _ _ _ hm
  have k2 := h2
  have lt2 : ∀ x ∈ p2, x.block < W.heap.size := by obtain ⟨m, hm⟩ := k2; exact DataW.trod_lt m _ _ _ hm
  obtain ⟨kv, gv, ks, ls, rfl, hk, hg, hls⟩ := open_graph (hval 0 25 v0 rfl rfl) h0
  obtain ⟨x, rfl, -, -, hx⟩ := open_int Tryd.underlying3 (hval 1 3 v1 rfl rfl) h1
  obtain ⟨z, rfl, -, -, hz⟩ := open_int Tryd.underlying5 (hval 2 5 v2 rfl rfl) h2
  have hbx := bounds_i64 hx
  have hbz := bounds_u8 hz
  obtain ⟨m, rfl⟩ := Int.eq_ofNat_of_zero_le hbz.1
  obtain ⟨c, rfl⟩ : ∃ c : UInt8, m = c.toNat := ⟨UInt8.ofNat m, by simp; omega⟩
  have hT := tab_of_laid hL
  clear hA0 hval0
  refine (walk kv gv ks ls x c W hk hg hls hbx.1 hbx.2 hT).mono fun e W' ⟨he, bel⟩ => ?_
  subst he
  exact ⟨_, rfl, _, _, _, [], _, [], hW', trodAll_mk1 (shut_bool Tryd.underlying4 _), (trodAll_cons_mk (Below.trod laidOut (by kernel_rfl) (of_decide_eq_true (by kernel_rfl)) k0 bel lt0) (trodAll_cons_mk (Below.trod laidOut (by kernel_rfl) (of_decide_eq_true (by kernel_rfl)) k1 bel lt1) (trodAll_cons_mk (Below.trod laidOut (by kernel_rfl) (of_decide_eq_true (by kernel_rfl)) k2 bel lt2) trodAll_mk0))), rfl, bel.frame _, fun h => by cases h⟩
theorem over : Rows.imageChangedRow.holds Tryd.pinned (OpenSpec.ofChange Rows.imageChangedSpec) :=
  OpenClaim.holds_of_wide 3 Tryd.f3 rfl rfl rfl rfl rfl rfl rfl ⟨rfl, rfl, rfl, rfl, rfl⟩ rfl rfl rfl rfl rfl (by kernel_rfl) Tryd.func3 (by kernel_rfl)
    (of_decide_eq_true (by kernel_rfl)) (by unfold Func.isWrapper; rw [if_neg (by decide +kernel)]; exact ⟨rfl, rfl⟩)
    (fun os started H enc _ => lifted os started H enc)
theorem proved : Rows.ImageChangedCardSaid :=
  Claim7.holds_tied_plain_at .later [] [.data] true (true, "93259984f5d30a4ec8d4848ceeffb61a689af0d029039f8539ce3703432383ab") false
    over (fun _ h => by cases h) (by kernel_rfl) (fun _ h => by cases h) imageChanged_row_tie rfl ⟨rfl, rfl⟩ (by kernel_rfl) rfl
    (fun f fn hf hfn => by
      obtain rfl : f = 3 := Option.some.inj ((show Tryd.prog.funcNamed "foundling/foundlinglaw07.ImageChanged" = some 3 by kernel_rfl).symm.trans hf) |>.symm
      obtain rfl : fn = Tryd.f3 := (Option.some.inj (Tryd.func3.symm.trans hfn)).symm
      exact ⟨by kernel_rfl, fun j t ht => by
        have hall : (Tryd.f3.params.all fun t => !Tryd.prog.wantsStandIn t) = true := by kernel_rfl
        rw [Array.all_eq_true_iff_forall_mem] at hall
        have := hall t (Array.mem_of_getElem? ht)
        show Tryd.prog.wantsStandIn t = false
        simpa using this⟩)
    (by kernel_rfl)
end Go.Proofs.YtaillinlbbhdkaaDoor.imageChanged
