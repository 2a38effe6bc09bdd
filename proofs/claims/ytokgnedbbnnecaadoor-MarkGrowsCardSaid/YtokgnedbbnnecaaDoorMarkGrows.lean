/- MarkGrows: what more words lead to is at least as much, whatever order they come in: for every graph and words. -/
import Derived.Test.YtokgnedbbnnecaaDoorGrowA
import Derived.Test.YtokgnedbbnnecaaDoorMarkI
import Derived.Test.YtokgnedbbnnecaaDoorTie
import Derived.Test.YtokgnedbbnnecaaDoorCards
import Derived.ChangeOld
namespace Go.Proofs.YtokgnedbbnnecaaDoor.markGrows
open Go.ChangeShapes Go.WideShapes Go.ChangeAt Go.RowKit
set_option linter.unusedVariables false
theorem wordVals_app (a b : List Nat) : wordVals (a ++ b) = wordVals a ++ wordVals b := by simp [wordVals]
theorem owns_sl {w : World} {B e n : Nat} {v : Value} {xs : List Value} (h : w.ownsRow B e 1 v n xs) : ∃ a k c, v = .slice a k c := by
  rcases h.2 with ⟨hv, -⟩ | ⟨g, cap, cur, hv, -⟩
  · exact ⟨_, _, _, hv⟩
  · exact ⟨_, _, _, hv⟩
set_option maxRecDepth 100000 in
set_option maxHeartbeats 1600000 in
theorem walk (kv gv xv yv : Value) (ks : List Int) (ls xs ys : List Nat) (w : World) (hk : NumsAt w .i64 kv ks) (hg : WordsAt w gv ls) (hls : ∀ x, x ∈ ls → x < 18446744073709551616) (hx : WordsAt w xv xs) (hxs : ∀ x, x ∈ xs → x < 18446744073709551616) (hy : WordsAt w yv ys) (hys : ∀ x, x ∈ ys → x < 18446744073709551616)
    (hT : TabAt 0 Lib.deBruijn64tab w) :
    Calls Tryd.prog 3 #[.agg #[kv, gv], xv, yv] w fun e w' => e = .returned (.bool true) ∧ Below w.heap.size w w' := by
  obtain ⟨i2, hi2, hc0, hc1, hc2⟩ := info_parts cellInfo
  have AW := Lib.hid (fun W => awake5 W)
  have LY := Lib.hid (fun W (hW : Below w.heap.size w W) => lay_any kv gv ks ls W (hk.later hW) (hg.later hW) hls)
  have HX := Lib.hid hx; have HXS := Lib.hid hxs; have HY := Lib.hid hy; have HYS := Lib.hid hys; have HT := Lib.hid hT
  obtain ⟨ka, kcap, rfl, -⟩ := id hk
  obtain ⟨ga, gcap, rfl, -⟩ := id hg
  clear hk hg hls hx hxs hy hys hT
  go_enter Tryd.func3, Tryd.ntmps3
  go_wp2_with fail
  obtain ⟨w1, hw1⟩ : ∃ w1, w1 = w.alloc (.cells #[.slice ka ks.length kcap, .slice ga ls.length gcap] 25) := ⟨_, rfl⟩
  rw [← hw1]
  have hh1 : w1.heap[w.heap.size]? = some (.cells #[.slice ka ks.length kcap, .slice ga ls.length gcap] 25 (0, 0)) := by rw [hw1]; exact heap_alloc_new w _
  have hb1 : Below w.heap.size w w1 := by rw [hw1]; exact (Below.refl _ w).alloc (Nat.le_refl _) _
  clear hw1
  refine (AW.out w1).mono ?_
  rintro e w2 ⟨rfl, hg2⟩
  have hh2 := (hg2.block _ (Array.getElem?_eq_some_iff.1 hh1).1).trans hh1
  have hb2 := hb1.trans (hg2.mono hb1.size)
  have y0 := cellO hh2 0
  have y1 := cellO hh2 1
  simp at y0 y1
  have m2 : w.heap.size < w2.heap.size := (Array.getElem?_eq_some_iff.1 hh2).1
  have B2 := Lib.hid hb2
  clear hg2 hh2 hb2 hh1 hb1
  go_wp2_with fail
  refine (LY.out w2 B2.out).mono ?_
  rintro e w3 ⟨h, lv, os, free, S, M, E, rfl, hh3, hlay, hol, hro, hg3⟩
  obtain ⟨la, ln, lc, rfl⟩ : ∃ la ln lc, lv = .slice la ln lc := by obtain ⟨la, lc, _, h1, -⟩ := hro; exact ⟨_, _, _, h1⟩
  have hfr := hlay.most
  have HG := Lib.hid (hlay.good (by omega))
  have HSM := Lib.hid (hlay.small (by omega))
  have B3 := Lib.hid (B2.out.trans (hg3.mono B2.out.size))
  have HH3 := Lib.hid hh3; have HRO := Lib.hid hro
  clear hh3 hlay hro hg3 y0 y1
  go_wp2_with fail
  obtain ⟨w4, hw4⟩ : ∃ w4, w4 = w3.alloc (.cells #[.int .i64 200, .slice la ln lc, .int .u32 0] 31) := ⟨_, rfl⟩
  rw [← hw4]
  have hh4 : w4.heap[w3.heap.size]? = some (.cells #[.int .i64 200, .slice la ln lc, .int .u32 0] 31 (0, 0)) := by rw [hw4]; exact heap_alloc_new w3 _
  have hb4 : Below w3.heap.size w3 w4 := by rw [hw4]; exact (Below.refl _ w3).alloc (Nat.le_refl _) _
  clear hw4
  have B4 := Lib.hid (B3.out.trans (hb4.mono B3.out.size))
  refine (roots_any E _ xv os xs w4 (HRO.out.later hb4) (HX.out.later B4.out) HXS.out HSM.out (by omega)).mono ?_
  rintro e w5 ⟨av, bv, r1, rfl, hr1l, hr1, hoa1, -, hg5⟩
  have hr1b : r1.length ≤ 6 := by omega
  clear hr1l
  have HH5 := Lib.hid ((HH3.out.later hb4).later hg5)
  have hl4 := (Array.getElem?_eq_some_iff.1 hh4).1
  have hh5 := (hg5.block _ hl4).trans hh4
  have RO5 := Lib.hid ((HRO.out.later hb4).later hg5)
  have B5 := Lib.hid (B4.out.trans (hg5.mono B4.out.size))
  have WA := Lib.hid (words_of_owns hoa1)
  have R1 := Lib.hid hr1; have HHB5 := Lib.hid hh5
  have y0 := cellO hh5 0
  have y1 := cellO hh5 1
  have y2 := cellO hh5 2
  have m5 : w3.heap.size < w5.heap.size := (Array.getElem?_eq_some_iff.1 hh5).1
  simp at y0 y1 y2
  clear hh4 hb4 hr1 hoa1 hg5 hl4 hh5 HH3 HRO
  go_wp2_with fail
  refine (roots_any E _ yv os ys w5 RO5.out (HY.out.later B5.out) HYS.out HSM.out (by omega)).mono ?_
  rintro e w6 ⟨cv, dv, r2, rfl, hr2l, hr2, hoa2, -, hg6⟩
  have hr2b : r2.length ≤ 6 := by omega
  clear hr2l
  have HH6 := Lib.hid (HH5.out.later hg6)
  have B6 := Lib.hid (B5.out.trans (hg6.mono B5.out.size))
  have WA6 := Lib.hid (WA.out.later hg6)
  have WB6 := Lib.hid (words_of_owns hoa2)
  have R2 := Lib.hid hr2
  have RE1 := Lib.hid (reach_told _ h 200 free S M r1 av w6 HH6.out HG.out WA6.out R1.out (by omega))
  clear hr2 hoa2 hg6 y0 y1 y2 HH5 WA HHB5 RO5
  go_wp2_with fail
  refine RE1.out.mono ?_
  rintro e w7 ⟨p1, n1, c1, rfl, ht1, hg7⟩
  have HH7 := Lib.hid (HH6.out.later hg7)
  have B7 := Lib.hid (B6.out.trans (hg7.mono B6.out.size))
  have WA7 := Lib.hid (WA6.out.later hg7)
  have WB7 := Lib.hid (WB6.out.later hg7)
  have T7 := Lib.hid ht1
  have HO7 := Lib.hid (World.ownsRow_lit (base := w7.heap.size) (size := 1) (e := 46) w7 #[] 0 (Nat.le_refl _) (by decide) rfl)
  have B7a := Lib.hid ((Below.refl _ w7).alloc (Nat.le_refl _) (.cells #[] 46))
  clear hg7 ht1 RE1 HH6 WA6 WB6
  go_wp2_with (at_builtin; refine wpList_append_words rfl _ _ 34 rfl w7.heap.size 46 i2 Tryd.underlying34 hi2 hc0 hc1 hc2 _ _ _ rfl HO7.out av r1 rfl (WA7.out.later B7a.out) ?c1 ?c2 ?_)
  case c1 => omega
  case c2 => simp
  intro v8 w8 ho8 hgr8
  have ho8' : w8.ownsRow w7.heap.size 46 1 v8 r1.length (wordVals r1) := by simpa using ho8
  have hb8 : Below w7.heap.size w7 w8 := B7a.out.grown hgr8 (by simp) (fun q hq => by simp [Value.ownBlock] at hq; omega)
  obtain ⟨va8, vn8, vc8, rfl⟩ := owns_sl ho8'
  have HO8 := Lib.hid ho8'; have HB8 := Lib.hid hb8
  clear ho8 ho8' hgr8 hb8
  go_wp2_with (at_builtin; refine wpList_append_words rfl _ _ 34 rfl w7.heap.size 46 i2 Tryd.underlying34 hi2 hc0 hc1 hc2 _ _ _ rfl HO8.out cv r2 rfl (WB7.out.later HB8.out) ?c1 ?c2 ?_)
  case c1 => omega
  case c2 => exact HB8.out.size
  intro v9 w9 ho9 hgr9
  have hb9 : Below w7.heap.size w7 w9 := HB8.out.grown hgr9 HB8.out.size (fun q hq => (HO8.out.lt q hq).1)
  have ho9' : w9.ownsRow w7.heap.size 46 1 v9 (r1.length + r2.length) (wordVals (r1 ++ r2)) := by rw [wordVals_app]; exact ho9
  obtain ⟨va9, vn9, vc9, rfl⟩ := owns_sl ho9'
  have HW9 := Lib.hid (words_of_owns ho9')
  have HH9 := Lib.hid (HH7.out.later hb9)
  have B9 := Lib.hid (B7.out.trans (hb9.mono B7.out.size))
  have HB9 := Lib.hid hb9
  have RE9 := Lib.hid (reach_told _ h 200 free S M (r1 ++ r2) _ w9 HH9.out HG.out HW9.out (fun x hx => by rcases List.mem_append.1 hx with hx | hx; exact (R1.out x hx); exact (R2.out x hx)) (by rw [List.length_append]; omega))
  clear ho9 ho9' hgr9 hb9
  go_wp2_with fail
  refine RE9.out.mono ?_
  rintro e w10 ⟨p10, n10, c10, rfl, ht10, hg10⟩
  have HH10 := Lib.hid (HH9.out.later hg10)
  have B10 := Lib.hid (B9.out.trans (hg10.mono B9.out.size))
  have G10 := Lib.hid (HB9.out.trans (hg10.mono HB9.out.size))
  have T10 := Lib.hid ht10
  clear hg10 ht10 RE9
  have WA10 := Lib.hid (WA7.out.later G10.out)
  have WB10 := Lib.hid (WB7.out.later G10.out)
  have T7b := Lib.hid (T7.out.later G10.out)
  have HO10 := Lib.hid (World.ownsRow_lit (base := w10.heap.size) (size := 1) (e := 46) w10 #[] 0 (Nat.le_refl _) (by decide) rfl)
  have B10a := Lib.hid ((Below.refl _ w10).alloc (Nat.le_refl _) (.cells #[] 46))
  clear T7 WA7 WB7 HO7 B7a
  go_wp2_with (at_builtin; refine wpList_append_words rfl _ _ 34 rfl w10.heap.size 46 i2 Tryd.underlying34 hi2 hc0 hc1 hc2 _ _ _ rfl HO10.out cv r2 rfl (WB10.out.later B10a.out) ?c1 ?c2 ?_)
  case c1 => omega
  case c2 => simp
  intro v11 w11 ho11 hgr11
  have ho11' : w11.ownsRow w10.heap.size 46 1 v11 r2.length (wordVals r2) := by simpa using ho11
  have hb11 : Below w10.heap.size w10 w11 := B10a.out.grown hgr11 (by simp) (fun q hq => by simp [Value.ownBlock] at hq; omega)
  obtain ⟨va11, vn11, vc11, rfl⟩ := owns_sl ho11'
  have HO11 := Lib.hid ho11'; have HB11 := Lib.hid hb11
  clear ho11 ho11' hgr11 hb11
  go_wp2_with (at_builtin; refine wpList_append_words rfl _ _ 34 rfl w10.heap.size 46 i2 Tryd.underlying34 hi2 hc0 hc1 hc2 _ _ _ rfl HO11.out av r1 rfl (WA10.out.later HB11.out) ?c1 ?c2 ?_)
  case c1 => omega
  case c2 => exact HB11.out.size
  intro v12 w12 ho12 hgr12
  have hb12 : Below w10.heap.size w10 w12 := HB11.out.grown hgr12 HB11.out.size (fun q hq => (HO11.out.lt q hq).1)
  have ho12' : w12.ownsRow w10.heap.size 46 1 v12 (r2.length + r1.length) (wordVals (r2 ++ r1)) := by rw [wordVals_app]; exact ho12
  obtain ⟨va12, vn12, vc12, rfl⟩ := owns_sl ho12'
  have HW12 := Lib.hid (words_of_owns ho12')
  have HH12 := Lib.hid (HH10.out.later hb12)
  have B12 := Lib.hid (B10.out.trans (hb12.mono B10.out.size))
  have HB12 := Lib.hid hb12
  have RE12 := Lib.hid (reach_told _ h 200 free S M (r2 ++ r1) _ w12 HH12.out HG.out HW12.out (fun x hx => by rcases List.mem_append.1 hx with hx | hx; exact (R2.out x hx); exact (R1.out x hx)) (by rw [List.length_append]; omega))
  clear ho12 ho12' hgr12 hb12
  go_wp2_with fail
  refine RE12.out.mono ?_
  rintro e w13 ⟨p13, n13, c13, rfl, ht13, hg13⟩
  have HH13 := Lib.hid (HH12.out.later hg13)
  have B13 := Lib.hid (B12.out.trans (hg13.mono B12.out.size))
  have G13 := Lib.hid (HB12.out.trans (hg13.mono HB12.out.size))
  have T13 := Lib.hid ht13
  clear hg13 ht13 RE12
  have T7c := Lib.hid (T7b.out.later G13.out)
  have T10c := Lib.hid (T10.out.later G13.out)
  have B23 := bad_same (S := S) (M := M) (R := r1 ++ r2) (R' := r2 ++ r1) (fun x => by simp [List.mem_append, or_comm])
  have B12 : Bad S M r1 → Bad S M (r1 ++ r2) := Bad.mono (fun x hx => List.mem_append.2 (Or.inl hx))
  clear T7b T10
  have B13' := Lib.hid B13.out
  rcases T10c.out with ⟨hb2, hc10⟩ | ⟨hb2, hc10, b2, T2, hp2, hn2, hbt2, hT2⟩
  · have hb3 := B23.1 hb2
    rcases T13.out with ⟨-, hc13⟩ | ⟨hb3', -⟩
    · have H7 : c1 = 13 ∨ c1 = 0 := by
        rcases T7c.out with ⟨-, h⟩ | ⟨-, h, -⟩
        · exact Or.inl h
        · exact Or.inr h
      clear hb2 hb3 T10c T13 T7c B23 B12
      subst hc10 hc13
      rcases H7 with rfl | rfl
      · go_wp2_with fail
        go_ret
        exact ⟨rfl, B13.out⟩
      · go_wp2_with fail
        go_ret
        exact ⟨rfl, B13.out⟩
    · exact absurd hb3 hb3'
  · rcases T13.out with ⟨hb3, -⟩ | ⟨hb3, hc13, b3, T3, hp3, hn3, hbt3, hT3⟩
    · exact absurd (B23.2 hb3) hb2
    · rcases T7c.out with ⟨hb1, -⟩ | ⟨hb1, hc1', b1, T1, hp1, hn1, hbt1, hT1⟩
      · exact absurd (B12 hb1) hb2
      · have h12 : ∀ a, T1 a = true → T2 a = true := fun a ha => by
          obtain ⟨h1, h2⟩ := (hT1 a).1 ha
          exact (hT2 a).2 ⟨h1.mono (fun x hx => List.mem_append.2 (Or.inl hx)), h2⟩
        have h23 : T2 = T3 := by
          funext a
          have : T2 a = true ↔ T3 a = true := by
            rw [hT2 a, hT3 a]
            exact and_congr_left' ⟨Wd.mono (fun x hx => by simpa [or_comm] using hx), Wd.mono (fun x hx => by simpa [or_comm] using hx)⟩
          cases h2 : T2 a <;> cases h3 : T3 a <;> simp_all
        subst h23
        have hle : n1 ≤ n10 := by rw [hn1, hn2]; exact_mod_cast ksum_mono h12 200
        have heq : n10 = n13 := by rw [hn2, hn3]
        have H12 := Lib.hid h12; have BT1 := Lib.hid hbt1; have BT2 := Lib.hid hbt2; have BT3 := Lib.hid hbt3
        have HT13 := Lib.hid (tab_later HT.out B13.out)
        clear hT1 hT2 hT3 hb1 hb2 hb3 hbt1 hbt2 hbt3 h12 T7c T10c T13 B23 B12 hn1 hn2 hn3
        simp only [Value.pointer.injEq] at hp1 hp2 hp3
        subst hc10 hc13 hc1' hp2 hp3 hp1 heq
        have NX := Lib.hid (fun W (hW : Below w13.heap.size w13 W) i => next_any _ b1 200 T1 i W (BT1.out.later hW) (tab_later HT13.out hW))
        have HS := Lib.hid (fun W (hW : Below w13.heap.size w13 W) (k : Nat) (hk : T1 k = true) => show Calls Tryd.prog 10 #[.pointer (some ⟨b2, 0, none⟩), .int .i64 (k : Int)] W fun e w' => e = .returned (.bool true) ∧ Below W.heap.size W w' from by
          have h := has_any _ b2 200 T2 (k : Int) W (BT2.out.later hW)
          rw [show (decide (0 ≤ (k : Int)) && T2 (k : Int).toNat) = true by rw [Int.toNat_natCast, H12.out k hk]; simp] at h
          exact h)
        have SM := Lib.hid (fun W (hW : Below w13.heap.size w13 W) => show Calls Tryd.prog 11 #[.pointer (some ⟨b2, 0, none⟩), .pointer (some ⟨b3, 0, none⟩)] W fun e w' => e = .returned (.bool true) ∧ Below W.heap.size W w' from
          (same_any _ b2 200 _ b3 200 T2 T2 W (BT2.out.later hW) (BT3.out.later hW)).mono fun e w' ⟨r, he, hr, hg⟩ => ⟨by rw [he, hr.2 ⟨rfl, rfl⟩], hg⟩)
        clear H12 BT1 BT2 BT3 HT13
        go_wp2_with fail
        refine (NX.out w13 (Below.refl _ _) 0).mono ?_
        rintro e w14 ⟨i0, rfl, hi0, rfl⟩
        have HI0 := Lib.hid hi0
        clear hi0
        go_wp2_with fail
        go_loopg [23] 201 (fun gg s23 wr => ∃ i : Int, s23 = .int .i64 i ∧ Below w14.heap.size w14 wr ∧ (i = -1 ∨ ∃ k : Nat, i = (k : Int) ∧ k < 200 ∧ T1 k = true ∧ 200 - k ≤ gg))
        case atStart =>
          refine ⟨i0, rfl, Below.refl _ _, ?_⟩
          rcases HI0.out with ⟨h, -⟩ | ⟨k, h1, h2, -, h3, -⟩
          · exact Or.inl h
          · exact Or.inr ⟨k, h1, h2, h3, by omega⟩
        case round =>
          obtain ⟨i, rfl, hbr, hi⟩ := hrel
          have HBR := Lib.hid hbr
          rcases hi with rfl | ⟨k, rfl, hk, hkT, hgk⟩
          · clear hbr
            go_wp2_with fail
            refine (SM.out _ HBR.out).mono ?_
            rintro e w15 ⟨rfl, hg15⟩
            have HB15 := Lib.hid (B13.out.trans ((HBR.out.trans (hg15.mono HBR.out.size)).mono B13.out.size))
            clear hg15
            go_wp2_with fail
            go_ret
            exact ⟨rfl, HB15.out⟩
          · have HGK := Lib.hid hgk; have HKT := Lib.hid hkT
            clear hbr hgk hkT
            go_wp2_with fail
            refine (HS.out _ HBR.out k HKT.out).mono ?_
            rintro e w15 ⟨rfl, hg15⟩
            have HBX := Lib.hid (HBR.out.trans (hg15.mono HBR.out.size))
            clear hg15
            go_wp2_with fail
            refine (NX.out w15 HBX.out ((k : Int) + 1)).mono ?_
            rintro e w16 ⟨r, rfl, hr, rfl⟩
            rcases hr with ⟨rfl, -⟩ | ⟨k', rfl, hk1, hk2, hk3, -⟩
            · go_wp2_with fail
              go_roundg 0
              case measure => have := HGK.out; omega
              case rel => exact ⟨-1, rfl, HBX.out, Or.inl rfl⟩
            · have HK3 := Lib.hid hk3
              clear hk3
              go_wp2_with fail
              go_roundg (200 - k')
              case measure => have := HGK.out; omega
              case rel => exact ⟨k', rfl, HBX.out, Or.inr ⟨k', rfl, hk1, HK3.out, Nat.le_refl _⟩⟩
theorem own : ownKnob Tryd.prog.godebug = none := by kernel_rfl
theorem laidOut : laidOutB Tryd.prog = true := by kernel_rfl
set_option maxRecDepth 100000 in
theorem lifted (os : Os) (started : os.Started) (H : Type) (enc : TypeId × Value → H) :
    ReturnsInHanded {} Tryd.checked os 3 .any (fun w args => (Rows.markGrowsSpec.pre enc Tryd.prog Tryd.f3 Rows.markGrowsRow.domain false w args ∧ laidMet Tryd.prog Rows.markGrowsRow.laid w) ∧ sizedMet enc Tryd.prog Tryd.f3 (OpenSpec.ofChange Rows.markGrowsSpec) false w args)
      (Rows.markGrowsSpec.post enc Tryd.prog Tryd.f3 false true false false) := by
  refine returnsInHanded_of_change_and (C := Tryd.checked) (X := fun w _ => laidMet Tryd.prog Rows.markGrowsRow.laid w) (fun _ _ _ hh h => h.of_heap hh) own started (by kernel_rfl) Tryd.func3
    (ChangeSpec.witness_at (enc := enc) (C := Tryd.checked) (os := os) (X := fun w _ => laidMet Tryd.prog Rows.markGrowsRow.laid w) false (laidWorld os) #[.agg #[.slice none 0 0, .slice none 0 0], .slice none 0 0, .slice none 0 0] 8 rfl (by kernel_rfl) (by kernel_rfl) (by kernel_rfl) (by kernel_rfl) (by kernel_rfl) (laid_met os _)) ?_
  intro W base args ds gs before hval0 hW hcnd hsz0 hL _
  have hval : ∀ (j : Nat) t v, Tryd.f3.params[j]? = some t → args[j]? = some v → Value.okWide Tryd.prog W .any base t v := hval0
  have hW' := hW
  obtain ⟨p, q, hA0, hV, rfl, hfz, hnd⟩ := hW
  have hA : DataW.TrodAll enc Tryd.prog W 0 (fun _ => true) true Tryd.f3.params.toList args.toList ds p := hA0
  rw [Tryd.params3] at hA hval
  obtain ⟨v0, vs0, d0, ds0, p0, q0, hargs, rfl, rfl, h0, r0⟩ := trodAll_cons hA
  obtain ⟨v1, vs1, d1, ds1, p1, q1, rfl, rfl, rfl, h1, r1⟩ := trodAll_cons r0
  obtain ⟨v2, vs2, d2, ds2, p2, q2, rfl, rfl, rfl, h2, r2⟩ := trodAll_cons r1
  obtain ⟨rfl, rfl, rfl⟩ := trodAll_nil r2
  obtain rfl : args = #[v0, v1, v2] := by cases args; simp_all
  obtain ⟨rfl, rfl⟩ := trodVars_none hV
  have k0 := h0
  have lt0 : ∀ x ∈ p0, x.block < W.heap.size := by obtain ⟨m, hm⟩ := k0; exact DataW.trod_lt m _ _ _ hm
  have k1 := h1
  have lt1 : ∀ x ∈ p1, x.block < W.heap.size := by obtain ⟨m, hm⟩ := k1; exact DataW.trod_lt m _ _ _ hm
  have k2 := h2
  have lt2 : ∀ x ∈ p2, x.block < W.heap.size := by obtain ⟨m, hm⟩ := k2; exact DataW.trod_lt m _ _ _ hm
  obtain ⟨kv, gv, ks, ls, rfl, hk, hg, hls⟩ := open_graph (hval 0 25 v0 rfl rfl) h0
  obtain ⟨l1, hl1⟩ := open_nums Tryd.underlying23 Tryd.underlying45 (by kernel_rfl) (hval 1 23 v1 rfl rfl) h1
  obtain ⟨l2, hl2⟩ := open_nums Tryd.underlying23 Tryd.underlying45 (by kernel_rfl) (hval 2 23 v2 rfl rfl) h2
  obtain ⟨xs, hx, hxs⟩ := words_of_nums hl1
  obtain ⟨ys, hy, hys⟩ := words_of_nums hl2
  have hT := tab_of_laid hL
  clear hA0 hval0
  refine (walk kv gv v1 v2 ks ls xs ys W hk hg hls hx hxs hy hys hT).mono fun e W' ⟨he, bel⟩ => ?_
  subst he
  exact ⟨_, rfl, _, _, _, [], _, [], hW', trodAll_mk1 (shut_bool Tryd.underlying4 _), (trodAll_cons_mk (Below.trod laidOut (by kernel_rfl) (of_decide_eq_true (by kernel_rfl)) k0 bel lt0) (trodAll_cons_mk (Below.trod laidOut (by kernel_rfl) (of_decide_eq_true (by kernel_rfl)) k1 bel lt1) (trodAll_cons_mk (Below.trod laidOut (by kernel_rfl) (of_decide_eq_true (by kernel_rfl)) k2 bel lt2) trodAll_mk0))), rfl, bel.frame _, fun h => by cases h⟩
theorem over : Rows.markGrowsRow.holds Tryd.pinned (OpenSpec.ofChange Rows.markGrowsSpec) :=
  OpenClaim.holds_of_wide 3 Tryd.f3 rfl rfl rfl rfl rfl rfl rfl ⟨rfl, rfl, rfl, rfl, rfl⟩ rfl rfl rfl rfl rfl (by kernel_rfl) Tryd.func3 (by kernel_rfl)
    (of_decide_eq_true (by kernel_rfl)) (by unfold Func.isWrapper; rw [if_neg (by decide +kernel)]; exact ⟨rfl, rfl⟩)
    (fun os started H enc _ => lifted os started H enc)
theorem proved : Rows.MarkGrowsCardSaid :=
  Claim7.holds_tied_plain_at .later [] [.data] true (true, "347957f637a44d8defebee765af1532993f0299ab9c0ae1a9d2ef6e6dbc18201") false
    over (fun _ h => by cases h) (by kernel_rfl) (fun _ h => by cases h) markGrows_row_tie rfl ⟨rfl, rfl⟩ (by kernel_rfl) rfl
    (fun f fn hf hfn => by
      obtain rfl : f = 3 := Option.some.inj ((show Tryd.prog.funcNamed "foundling/foundlinglaw05.MarkGrows" = some 3 by kernel_rfl).symm.trans hf) |>.symm
      obtain rfl : fn = Tryd.f3 := (Option.some.inj (Tryd.func3.symm.trans hfn)).symm
      exact ⟨by kernel_rfl, fun j t ht => by
        have hall : (Tryd.f3.params.all fun t => !Tryd.prog.wantsStandIn t) = true := by kernel_rfl
        rw [Array.all_eq_true_iff_forall_mem] at hall
        have := hall t (Array.mem_of_getElem? ht)
        show Tryd.prog.wantsStandIn t = false
        simpa using this⟩)
    (by kernel_rfl)
end Go.Proofs.YtokgnedbbnnecaaDoor.markGrows
