/- MarkCloses: whatever is reached leads to what is reached: for every graph and word. -/
import Derived.Test.YtokgnedbbnnecaaDoorWalkH
import Derived.Test.YtokgnedbbnnecaaDoorMarkI
import Derived.Test.YtokgnedbbnnecaaDoorTie
import Derived.Test.YtokgnedbbnnecaaDoorCards
import Derived.ChangeOld
namespace Go.Proofs.YtokgnedbbnnecaaDoor.markCloses
open Go.ChangeShapes Go.WideShapes Go.ChangeAt Go.RowKit
set_option linter.unusedVariables false
theorem wd_trans {S : Nat → Bool} {M : Nat → Nat} {R R' : List Nat} (h : ∀ x, x ∈ R → Wd S M R' x) {x : Nat} (hx : Wd S M R x) : Wd S M R' x := by
  induction hx with
  | root hx => exact h _ hx
  | step _ hs hy ih => exact Wd.step ih hs hy
theorem wd_none {S : Nat → Bool} {M : Nat → Nat} (h0 : S 0 = false) {x : Nat} (hx : Wd S M [0, 1, 3] x) : x = 0 ∨ x = 1 ∨ x = 3 := by
  induction hx with
  | root hx => simpa using hx
  | @step a y _ hs hy ih =>
    exfalso
    have : a = 0 := by omega
    subst this
    rw [h0] at hs; cases hs
theorem ksum_none (M : Nat → Nat) (T : Nat → Bool) (h : ∀ j, T j = false) (n : Nat) : ksum M T n = 0 := by
  induction n with
  | zero => rfl
  | succ n ih => unfold ksum; rw [ih, h n]; rfl
theorem words_one (w : World) (x : Nat) : WordsAt (w.alloc (.cells #[.int .u64 (x : Int)] 45)) (.slice (some ⟨w.heap.size, 0, none⟩) 1 1) [x] :=
  words_of_owns (World.ownsRow_lit (base := w.heap.size) (size := 1) (e := 45) w #[.int .u64 (x : Int)] 1 (Nat.le_refl _) (by decide) rfl)
theorem api_one (w : World) (x : Nat) : WordsAt (w.alloc (.cells #[.int .u64 (x : Int)] 46)) (.slice (some ⟨w.heap.size, 0, none⟩) 1 1) [x] :=
  words_of_owns (World.ownsRow_lit (base := w.heap.size) (size := 1) (e := 46) w #[.int .u64 (x : Int)] 1 (Nat.le_refl _) (by decide) rfl)
theorem api_three (w : World) : WordsAt (w.alloc (.cells #[.int .u64 0, .int .u64 1, .int .u64 3] 46)) (.slice (some ⟨w.heap.size, 0, none⟩) 3 3) [0, 1, 3] :=
  words_of_owns (World.ownsRow_lit (base := w.heap.size) (size := 1) (e := 46) w #[.int .u64 0, .int .u64 1, .int .u64 3] 3 (Nat.le_refl _) (by decide) rfl)
set_option maxRecDepth 100000 in
set_option maxHeartbeats 1600000 in
theorem walk (kv gv : Value) (ks : List Int) (ls : List Nat) (z : Nat) (w : World) (hk : NumsAt w .i64 kv ks) (hg : WordsAt w gv ls) (hls : ∀ x, x ∈ ls → x < 18446744073709551616) (hz : z < 18446744073709551616)
    (hT : TabAt 0 Lib.deBruijn64tab w) :
    Calls Tryd.prog 4 #[.agg #[kv, gv], .int .u64 (z : Int)] w fun e w' => e = .returned (.bool true) ∧ Below w.heap.size w w' := by
  have AW := Lib.hid (fun W => awake5 W)
  have LY := Lib.hid (fun W (hW : Below w.heap.size w W) => lay_any kv gv ks ls W (hk.later hW) (hg.later hW) hls)
  have HT := Lib.hid hT
  obtain ⟨ka, kcap, rfl, -⟩ := id hk
  obtain ⟨ga, gcap, rfl, -⟩ := id hg
  clear hk hg hls hT
  go_enter Tryd.func4, Tryd.ntmps4
  go_wp2_with fail
  obtain ⟨w1, hw1⟩ : ∃ w1, w1 = w.alloc (.cells #[.slice ka ks.length kcap, .slice ga ls.length gcap] 25) := ⟨_, rfl⟩
  rw [← hw1]
  have hh1 : w1.heap[w.heap.size]? = some (.cells #[.slice ka ks.length kcap, .slice ga ls.length gcap] 25 (0, 0)) := by rw [hw1]; exact heap_alloc_new w _
  have hb1 : Below w.heap.size w w1 := by rw [hw1]; exact (Below.refl _ w).alloc (Nat.le_refl _) _
  clear hw1
  refine (AW.out w1).mono ?_
  rintro e w2 ⟨rfl, hg2⟩
  have hh2 := (hg2.block _ (Array.getElem?_eq_some_iff.1 hh1).1).trans hh1
  have hb2 := hb1.trans (hg2.mono hb1.size)
  have y0 := cellO hh2 0
  have y1 := cellO hh2 1
  simp at y0 y1
  have m2 : w.heap.size < w2.heap.size := (Array.getElem?_eq_some_iff.1 hh2).1
  have B2 := Lib.hid hb2
  clear hg2 hh2 hb2 hh1 hb1
  go_wp2_with fail
  refine (LY.out w2 B2.out).mono ?_
  rintro e w3 ⟨h, lv, os, free, S, M, E, rfl, hh3, hlay, hol, hro, hg3⟩
  obtain ⟨la, ln, lc, rfl⟩ : ∃ la ln lc, lv = .slice la ln lc := by obtain ⟨la, lc, _, h1, -⟩ := hro; exact ⟨_, _, _, h1⟩
  have hfr := hlay.most
  have HG := Lib.hid (hlay.good (by omega))
  have hS0 : S 0 = false := by
    cases h0 : S 0 with
    | false => rfl
    | true => obtain ⟨i, o, ho, ho0⟩ := hlay.only 0 h0; have := (hlay.obj i o ho).two; omega
  have HS0 := Lib.hid hS0
  clear hS0
  have HSM := Lib.hid (hlay.small (by omega))
  have B3 := Lib.hid (B2.out.trans (hg3.mono B2.out.size))
  have HH3 := Lib.hid hh3; have HRO := Lib.hid hro
  clear hh3 hlay hro hg3 y0 y1
  go_wp2_with fail
  obtain ⟨w4, hw4⟩ : ∃ w4, w4 = w3.alloc (.cells #[.int .i64 200, .slice la ln lc, .int .u32 0] 31) := ⟨_, rfl⟩
  rw [← hw4]
  have hh4 : w4.heap[w3.heap.size]? = some (.cells #[.int .i64 200, .slice la ln lc, .int .u32 0] 31 (0, 0)) := by rw [hw4]; exact heap_alloc_new w3 _
  have hb4 : Below w3.heap.size w3 w4 := by rw [hw4]; exact (Below.refl _ w3).alloc (Nat.le_refl _) _
  have hw4s : w4.heap.size = (w3.alloc (.cells #[.int .i64 200, .slice la ln lc, .int .u32 0] 31)).heap.size := by rw [hw4]
  clear hw4
  have B4 := Lib.hid (B3.out.trans (hb4.mono B3.out.size))
  have hw1 := words_one w4 z
  have hz4 : w4.heap.size = w3.heap.size + 1 := by
    have h1 := (Array.getElem?_eq_some_iff.1 hh4).1
    rw [hw4s]; simp
  rw [hz4] at hw1
  have hb5 : Below w4.heap.size w4 (w4.alloc (.cells #[.int .u64 (z : Int)] 45)) := (Below.refl _ w4).alloc (Nat.le_refl _) _
  generalize w4.alloc (.cells #[.int .u64 (z : Int)] 45) = w5 at *
  have B5 := Lib.hid (B4.out.trans (hb5.mono B4.out.size))
  refine (roots_any E _ _ os [z] w5 ((HRO.out.later hb4).later hb5) hw1 (fun x hx => by simp at hx; omega) HSM.out (by omega)).mono ?_
  rintro e w6 ⟨av, bv, r1, rfl, hr1l, hr1, hoa1, -, hg6⟩
  have hr1b : r1.length ≤ 6 := by omega
  have HH6 := Lib.hid (((HH3.out.later hb4).later hb5).later hg6)
  have B6 := Lib.hid (B5.out.trans (hg6.mono B5.out.size))
  have WA := Lib.hid (words_of_owns hoa1)
  have R1 := Lib.hid hr1
  have RE1 := Lib.hid (reach_told _ h 200 free S M r1 av w6 HH6.out HG.out WA.out R1.out (by omega))
  clear hh4 hb4 hr1 hoa1 hg6 HH3 HRO hb5 hw1 hz4 hw4s hr1l
  go_wp2_with fail
  refine RE1.out.mono ?_
  rintro e w7 ⟨p1, n1, c1, rfl, ht1, hg7⟩
  have HH7 := Lib.hid (HH6.out.later hg7)
  have B7 := Lib.hid (B6.out.trans (hg7.mono B6.out.size))
  clear hg7 RE1 HH6
  rcases ht1 with ⟨hb1, hc1⟩ | ⟨hb1, hc1, b1, T1, hp1, hn1, hbt1, hT1⟩
  · subst hc1
    go_wp2_with fail
    go_ret
    exact ⟨rfl, B7.out⟩
  · simp only [Value.pointer.injEq] at hp1
    subst hc1 hp1
    have HB1 := Lib.hid hb1; have BT1 := Lib.hid hbt1; have HT1 := Lib.hid hT1
    have HT7 := Lib.hid (tab_later HT.out B7.out)
    have FI := Lib.hid (first_any _ h 200 free S M w7 HH7.out (by omega) HS0.out HT7.out)
    have HN1 := Lib.hid hn1
    clear hb1 hbt1 hT1 hn1
    go_wp2_with fail
    refine FI.out.mono ?_
    rintro e w8 ⟨x0, rfl, hx0, hg8⟩
    have HX0 := Lib.hid hx0; have HG8 := Lib.hid hg8
    clear hx0 hg8
    have AF := Lib.hid (fun W (hW : Below w7.heap.size w7 W) (k : Nat) (hk : S k = true) (hkN : k < 200) => after_any _ h 200 free k S M W (HH7.out.later hW) (by omega) HS0.out hk hkN (tab_later HT7.out hW))
    have HA1 := Lib.hid (fun W (hW : Below w7.heap.size w7 W) (k : Nat) => show Calls Tryd.prog 10 #[.pointer (some ⟨b1, 0, none⟩), .int .i64 (k : Int)] W fun e w' => e = .returned (.bool (T1 k)) ∧ Below W.heap.size W w' from by
      have h := has_any _ b1 200 T1 (k : Int) W (BT1.out.later hW)
      rw [show (decide (0 ≤ (k : Int)) && T1 (k : Int).toNat) = T1 k by rw [Int.toNat_natCast]; simp] at h
      exact h)
    go_wp2_with fail
    go_loopg [13] 201 (fun gg s13 wr => ∃ x : Nat, s13 = .int .u64 (x : Int) ∧ Below w7.heap.size w7 wr ∧ (x = 0 ∨ ∃ k : Nat, x = k * 2 ∧ k < 200 ∧ S k = true ∧ 200 - k ≤ gg))
    case atStart =>
      refine ⟨x0, rfl, HG8.out, ?_⟩
      rcases HX0.out with ⟨h, -⟩ | ⟨k, h1, h2, -, h3, -⟩
      · exact Or.inl h
      · exact Or.inr ⟨k, h1, h2, h3, by omega⟩
    case round =>
      obtain ⟨x, rfl, hbr, hx⟩ := hrel
      have HBR := Lib.hid hbr
      rcases hx with rfl | ⟨k, rfl, hk, hkS, hgk⟩
      · clear hbr
        have RE := Lib.hid (reach_told _ h 200 free S M [0, 1, 3] _ _ (HH7.out.later (HBR.out.trans ((Below.refl _ wr).alloc (Nat.le_refl _) (.cells #[.int .u64 0, .int .u64 1, .int .u64 3] 46) |>.mono HBR.out.size))) HG.out (api_three wr) (fun x hx => by simp at hx; omega) (by simp))
        have HBA := Lib.hid ((HBR.out.trans ((Below.refl _ wr).alloc (Nat.le_refl _) (.cells #[.int .u64 0, .int .u64 1, .int .u64 3] 46) |>.mono HBR.out.size)))
        go_wp2_with fail
        refine RE.out.mono ?_
        rintro e w9 ⟨p0, n0, c0, rfl, ht0, hg9⟩
        have B9 := Lib.hid (B7.out.trans ((HBA.out.trans (hg9.mono HBA.out.size)).mono B7.out.size))
        have HT9 := Lib.hid (tab_later HT.out B9.out)
        clear hg9
        rcases ht0 with ⟨hb0, -⟩ | ⟨hb0, hc0, b0, T0, hp0, hn0, hbt0, hT0⟩
        · exfalso
          obtain ⟨y, hy, y0, y1, -⟩ := hb0
          have := wd_none HS0.out hy
          omega
        · have hT0f : ∀ j, T0 j = false := fun j => by
            cases hj : T0 j with
            | false => rfl
            | true =>
              obtain ⟨h1, h2⟩ := (hT0 j).1 hj
              have := wd_none HS0.out h1
              obtain rfl : j = 0 := by omega
              rw [HS0.out] at h2; cases h2
          rw [ksum_none M T0 hT0f] at hn0
          simp only [Value.pointer.injEq] at hp0
          subst hc0 hp0 hn0
          have NX0 := Lib.hid (next_any _ b0 200 T0 0 w9 hbt0 HT9.out)
          have TF := Lib.hid hT0f
          clear hb0 hbt0 hT0 hT0f
          go_wp2_with fail
          refine NX0.out.mono ?_
          rintro e w10 ⟨r, rfl, hr, rfl⟩
          rcases hr with ⟨rfl, -⟩ | ⟨k, -, -, -, hk, -⟩
          · go_wp2_with fail
            go_ret
            exact ⟨rfl, B9.out⟩
          · rw [TF.out] at hk; cases hk
      · have HGK := Lib.hid hgk; have HKS := Lib.hid hkS
        have hk0 : k ≠ 0 := fun e => by subst e; rw [HS0.out] at hkS; cases hkS
        clear hbr hgk hkS
        have AT := Lib.hid (at_yes ((k : Int) * 2) (by omega) (by omega) (by omega) wr)
        rw [show (k : Int) * 2 / 2 = k by omega] at AT
        go_wp2_with fail
        refine AT.out.mono ?_
        rintro e w9 ⟨rfl, rfl⟩
        go_wp2_with fail
        refine (HA1.out _ HBR.out k).mono ?_
        rintro e w10 ⟨rfl, hg10⟩
        have HB10 := Lib.hid (HBR.out.trans (hg10.mono HBR.out.size))
        clear hg10
        cases hk1 : T1 k with
        | false =>
          go_wp2_with fail
          refine (AF.out _ HB10.out k HKS.out hk).mono ?_
          rintro e w11 ⟨xn, rfl, hxn, hgn⟩
          have HBN := Lib.hid (HB10.out.trans (hgn.mono HB10.out.size))
          clear hgn
          rcases hxn with ⟨rfl, -⟩ | ⟨k', rfl, hkn1, hkn2, hkn3, -⟩
          · go_wp2_with fail
            go_roundg 0
            case measure => have := HGK.out; omega
            case rel => exact ⟨0, rfl, HBN.out, Or.inl rfl⟩
          · have HK3 := Lib.hid hkn3
            clear hkn3
            go_wp2_with fail
            go_roundg (200 - k')
            case measure => have := HGK.out; omega
            case rel => exact ⟨k' * 2, by simp, HBN.out, Or.inr ⟨k', rfl, hkn1, HK3.out, Nat.le_refl _⟩⟩
        | true =>
          have hwd : ∀ x, x ∈ [k * 2] → Wd S M r1 x := fun x hx => by
            have : x = k * 2 := by simpa using hx
            rw [this]; exact ((HT1.out k).1 hk1).1
          have HWD := Lib.hid hwd
          have hap := api_one w10 (k * 2)
          rw [show ((k * 2 : Nat) : Int) = (k : Int) * 2 by simp] at hap
          have HBA := Lib.hid (HB10.out.trans (((Below.refl _ w10).alloc (Nat.le_refl _) (.cells #[.int .u64 ((k : Int) * 2)] 46)).mono HB10.out.size))
          have RE := Lib.hid (reach_told _ h 200 free S M [k * 2] _ _ (HH7.out.later HBA.out) HG.out hap (fun x hx => by simp at hx; omega) (by simp))
          clear hwd hap hk1
          go_wp2_with fail
          refine RE.out.mono ?_
          rintro e w11 ⟨p2, n2, c2, rfl, ht2, hg11⟩
          have HB11 := Lib.hid (HBA.out.trans (hg11.mono HBA.out.size))
          clear hg11 RE
          rcases ht2 with ⟨hb2, -⟩ | ⟨hb2, hc2, b2, T2, hp2, hn2, hbt2, hT2⟩
          · exfalso
            obtain ⟨y, hy, hyy⟩ := hb2
            exact HB1.out ⟨y, wd_trans HWD.out hy, hyy⟩
          · have h21 : ∀ a, T2 a = true → T1 a = true := fun a ha => by
              obtain ⟨h1, h2⟩ := (hT2 a).1 ha
              exact (HT1.out a).2 ⟨wd_trans HWD.out h1, h2⟩
            have hle : n2 ≤ n1 := by rw [hn2, HN1.out]; exact_mod_cast ksum_mono h21 200
            simp only [Value.pointer.injEq] at hp2
            subst hc2 hp2
            have H21 := Lib.hid h21
            have NX := Lib.hid (fun W (hW : Below w11.heap.size w11 W) i => next_any _ b2 200 T2 i W (hbt2.later hW) (tab_later (tab_later HT7.out HB11.out) hW))
            clear h21 hb2 hbt2 hT2 hn2
            go_wp2_with fail
            refine (NX.out w11 (Below.refl _ _) 0).mono ?_
            rintro e w12 ⟨i0, rfl, hi0, rfl⟩
            have HI0 := Lib.hid hi0
            clear hi0
            go_wp2_with fail
            go_loopg [19] 201 (fun gg s19 wq => ∃ i : Int, s19 = .int .i64 i ∧ Below w12.heap.size w12 wq ∧ (i = -1 ∨ ∃ q : Nat, i = (q : Int) ∧ q < 200 ∧ T2 q = true ∧ 200 - q ≤ gg))
            case atStart =>
              refine ⟨i0, rfl, Below.refl _ _, ?_⟩
              rcases HI0.out with ⟨h, -⟩ | ⟨q, h1, h2, -, h3, -⟩
              · exact Or.inl h
              · exact Or.inr ⟨q, h1, h2, h3, by omega⟩
            case round =>
              obtain ⟨i, rfl, hbq, hi⟩ := hrel
              have HBQ := Lib.hid hbq
              have HBW := Lib.hid (HB11.out.trans (hbq.mono HB11.out.size))
              rcases hi with rfl | ⟨q, rfl, hq, hqT, hgq⟩
              · clear hbq
                go_wp2_with fail
                refine (AF.out _ HBW.out k HKS.out hk).mono ?_
                rintro e w13 ⟨xn, rfl, hxn, hgn⟩
                have HBN := Lib.hid (HBW.out.trans (hgn.mono HBW.out.size))
                clear hgn
                rcases hxn with ⟨rfl, -⟩ | ⟨k', rfl, hkn1, hkn2, hkn3, -⟩
                · go_wp2_with fail
                  go_roundg 0
                  case measure => have := HGK.out; omega
                  case rel => exact ⟨0, rfl, HBN.out, Or.inl rfl⟩
                · have HK3 := Lib.hid hkn3
                  clear hkn3
                  go_wp2_with fail
                  go_roundg (200 - k')
                  case measure => have := HGK.out; omega
                  case rel => exact ⟨k' * 2, by simp, HBN.out, Or.inr ⟨k', rfl, hkn1, HK3.out, Nat.le_refl _⟩⟩
              · have HGQ := Lib.hid hgq
                have HAQ := HA1.out _ HBW.out q
                rw [H21.out q hqT] at HAQ
                have HAQ' := Lib.hid HAQ
                clear hbq hgq hqT HAQ
                go_wp2_with fail
                refine HAQ'.out.mono ?_
                rintro e w13 ⟨rfl, hg13⟩
                have HBX := Lib.hid (HBQ.out.trans (hg13.mono HBQ.out.size))
                clear hg13
                go_wp2_with fail
                refine (NX.out w13 HBX.out ((q : Int) + 1)).mono ?_
                rintro e w14 ⟨r, rfl, hr, rfl⟩
                rcases hr with ⟨rfl, -⟩ | ⟨q', rfl, hq1, hq2, hq3, -⟩
                · go_wp2_with fail
                  go_roundg 0
                  case measure => have := HGQ.out; omega
                  case rel => exact ⟨-1, rfl, HBX.out, Or.inl rfl⟩
                · have HQ3 := Lib.hid hq3
                  clear hq3
                  go_wp2_with fail
                  go_roundg (200 - q')
                  case measure => have := HGQ.out; omega
                  case rel => exact ⟨q', rfl, HBX.out, Or.inr ⟨q', rfl, hq1, HQ3.out, Nat.le_refl _⟩⟩
theorem own : ownKnob Tryd.prog.godebug = none := by kernel_rfl
theorem laidOut : laidOutB Tryd.prog = true := by kernel_rfl
set_option maxRecDepth 100000 in
theorem lifted (os : Os) (started : os.Started) (H : Type) (enc : TypeId × Value → H) :
    ReturnsInHanded {} Tryd.checked os 4 .any (fun w args => (Rows.markClosesSpec.pre enc Tryd.prog Tryd.f4 Rows.markClosesRow.domain false w args ∧ laidMet Tryd.prog Rows.markClosesRow.laid w) ∧ sizedMet enc Tryd.prog Tryd.f4 (OpenSpec.ofChange Rows.markClosesSpec) false w args)
      (Rows.markClosesSpec.post enc Tryd.prog Tryd.f4 false true false false) := by
  refine returnsInHanded_of_change_and (C := Tryd.checked) (X := fun w _ => laidMet Tryd.prog Rows.markClosesRow.laid w) (fun _ _ _ hh h => h.of_heap hh) own started (by kernel_rfl) Tryd.func4
    (ChangeSpec.witness_at (enc := enc) (C := Tryd.checked) (os := os) (X := fun w _ => laidMet Tryd.prog Rows.markClosesRow.laid w) false (laidWorld os) #[.agg #[.slice none 0 0, .slice none 0 0], .int .u64 0] 8 rfl (by kernel_rfl) (by kernel_rfl) (by kernel_rfl) (by kernel_rfl) (by kernel_rfl) (laid_met os _)) ?_
  intro W base args ds gs before hval0 hW hcnd hsz0 hL _
  have hval : ∀ (j : Nat) t v, Tryd.f4.params[j]? = some t → args[j]? = some v → Value.okWide Tryd.prog W .any base t v := hval0
  have hW' := hW
  obtain ⟨p, q, hA0, hV, rfl, hfz, hnd⟩ := hW
  have hA : DataW.TrodAll enc Tryd.prog W 0 (fun _ => true) true Tryd.f4.params.toList args.toList ds p := hA0
  rw [Tryd.params4] at hA hval
  obtain ⟨v0, vs0, d0, ds0, p0, q0, hargs, rfl, rfl, h0, r0⟩ := trodAll_cons hA
  obtain ⟨v1, vs1, d1, ds1, p1, q1, rfl, rfl, rfl, h1, r1⟩ := trodAll_cons r0
  obtain ⟨rfl, rfl, rfl⟩ := trodAll_nil r1
  obtain rfl : args = #[v0, v1] := by cases args; simp_all
  obtain ⟨rfl, rfl⟩ := trodVars_none hV
  have k0 := h0
  have lt0 : ∀ x ∈ p0, x.block < W.heap.size := by obtain ⟨m, hm⟩ := k0; exact DataW.trod_lt m _ _ _ hm
  have k1 := h1
  have lt1 : ∀ x ∈ p1, x.block < W.heap.size := by obtain ⟨m, hm⟩ := k1; exact DataW.trod_lt m _ _ _ hm
  obtain ⟨kv, gv, ks, ls, rfl, hk, hg, hls⟩ := open_graph (hval 0 25 v0 rfl rfl) h0
  obtain ⟨z0, rfl, -, -, hz0⟩ := open_int Tryd.underlying45 (hval 1 45 v1 rfl rfl) h1
  have hbz := bounds_u64 hz0
  obtain ⟨z, rfl⟩ := Int.eq_ofNat_of_zero_le hbz.1
  have hT := tab_of_laid hL
  clear hA0 hval0
  refine (walk kv gv ks ls z W hk hg hls (by omega) hT).mono fun e W' ⟨he, bel⟩ => ?_
  subst he
  exact ⟨_, rfl, _, _, _, [], _, [], hW', trodAll_mk1 (shut_bool Tryd.underlying4 _), (trodAll_cons_mk (Below.trod laidOut (by kernel_rfl) (of_decide_eq_true (by kernel_rfl)) k0 bel lt0) (trodAll_cons_mk (Below.trod laidOut (by kernel_rfl) (of_decide_eq_true (by kernel_rfl)) k1 bel lt1) trodAll_mk0)), rfl, bel.frame _, fun h => by cases h⟩
theorem over : Rows.markClosesRow.holds Tryd.pinned (OpenSpec.ofChange Rows.markClosesSpec) :=
  OpenClaim.holds_of_wide 4 Tryd.f4 rfl rfl rfl rfl rfl rfl rfl ⟨rfl, rfl, rfl, rfl, rfl⟩ rfl rfl rfl rfl rfl (by kernel_rfl) Tryd.func4 (by kernel_rfl)
    (of_decide_eq_true (by kernel_rfl)) (by unfold Func.isWrapper; rw [if_neg (by decide +kernel)]; exact ⟨rfl, rfl⟩)
    (fun os started H enc _ => lifted os started H enc)
theorem proved : Rows.MarkClosesCardSaid :=
  Claim7.holds_tied_plain_at .later [] [.data] true (true, "347957f637a44d8defebee765af1532993f0299ab9c0ae1a9d2ef6e6dbc18201") false
    over (fun _ h => by cases h) (by kernel_rfl) (fun _ h => by cases h) markCloses_row_tie rfl ⟨rfl, rfl⟩ (by kernel_rfl) rfl
    (fun f fn hf hfn => by
      obtain rfl : f = 4 := Option.some.inj ((show Tryd.prog.funcNamed "foundling/foundlinglaw05.MarkCloses" = some 4 by kernel_rfl).symm.trans hf) |>.symm
      obtain rfl : fn = Tryd.f4 := (Option.some.inj (Tryd.func4.symm.trans hfn)).symm
      exact ⟨by kernel_rfl, fun j t ht => by
        have hall : (Tryd.f4.params.all fun t => !Tryd.prog.wantsStandIn t) = true := by kernel_rfl
        rw [Array.all_eq_true_iff_forall_mem] at hall
        have := hall t (Array.mem_of_getElem? ht)
        show Tryd.prog.wantsStandIn t = false
        simpa using this⟩)
    (by kernel_rfl)
end Go.Proofs.YtokgnedbbnnecaaDoor.markCloses
