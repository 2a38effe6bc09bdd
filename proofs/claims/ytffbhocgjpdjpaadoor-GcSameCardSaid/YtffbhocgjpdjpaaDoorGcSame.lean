/- GcSame: object by object, as the roots lead to them, they lead to the same behind a collection: for every graph and roots. -/
import Derived.Test.YtffbhocgjpdjpaaDoorOrdR
import Derived.Test.YtffbhocgjpdjpaaDoorGcC
import Derived.Test.YtffbhocgjpdjpaaDoorTie
import Derived.Test.YtffbhocgjpdjpaaDoorCards
import Derived.ChangeOld
import Derived.StillTailTactics
import Derived.Maps.AppendAt
namespace Go.Proofs.YtffbhocgjpdjpaaDoor.gcSame
open Go.Joins Go.ChangeShapes Go.WideShapes Go.ChangeAt Go.RowKit Go.Deep Go.Maps
set_option linter.unusedVariables false
/-- all that the walk wants of memory behind the collection -/
theorem after_all {S T : Nat → Bool} {M : Nat → Nat} {R : List Nat} {free m : Nat} {os : List RO} {kk : List Nat} (hL : Lays free S M os) (hG : GoodH 200 S M) (c : CollOK 200 S M) (h : Stay S M R T) (hR : ∀ x, x ∈ R → x < 18446744073709551616) (hm : (ordQ 200 S M R m).1.2.1.length = m) (r : RState os (ordQ 200 S M R m) kk) :
    ∃ (S2 : Nat → Bool) (M2 : Nat → Nat) (F : Nat), newS 200 M T = S2 ∧ newM 200 M T = M2 ∧ 2 + ksum M T 200 = F ∧ GoodH 200 S2 M2 ∧ ¬ Bad S2 M2 (R.map (turnM M T)) ∧ (∀ x, x ∈ R.map (turnM M T) → x < 18446744073709551616) ∧
      (∀ (k : Nat) (o : RO), os[k]? = some o → T o.at_ = true → Behind S2 M2 (turnM M T) o (npl M T o.at_)) ∧
      ∀ (l' : List Nat) (m' : Nat), l' = (ordQ 200 S2 M2 (R.map (turnM M T)) m').1.2.1 → l'.length = m' → l' = kk.map fun k => turnM M T (atR os k * 2) := by
  refine ⟨_, _, _, rfl, rfl, rfl, new_goodH c h, (new_stay c h).good, fun x hx => ?_, fun k o ho hT => behind hL c h ho hT, fun l' m' e1 e2 => ?_⟩
  · obtain ⟨y, hy, rfl⟩ := List.mem_map.1 hx
    exact turn_small c h (hR y hy)
  · rw [(order_turned hG c h (h.room c) rfl hm e1 e2).1, r.wait, List.map_map]; rfl
set_option maxRecDepth 100000 in
set_option maxHeartbeats 4000000 in
theorem walk (kv gv xv : Value) (ks : List Int) (ls xs : List Nat) (w : World) (hk : NumsAt w .i64 kv ks) (hg : WordsAt w gv ls) (hls : ∀ x, x ∈ ls → x < 18446744073709551616) (hx : WordsAt w xv xs) (hxs : ∀ x, x ∈ xs → x < 18446744073709551616)
    (hT : TabAt 0 Lib.deBruijn64tab w) :
    Calls Tryd.prog 5 #[.agg #[kv, gv], xv] w fun e w' => e = .returned (.bool true) ∧ Below w.heap.size w w' := by
  have AW := Lib.hid (fun W (hW : Below w.heap.size w W) => awake6 W (tab_later hT hW))
  have LY := Lib.hid (fun W (hW : Below w.heap.size w W) => lay_lt kv gv ks ls W (hk.later hW) (hg.later hW) hls)
  have HX := Lib.hid hx; have HXS := Lib.hid hxs; have HT := Lib.hid hT
  obtain ⟨ka, kcap, rfl, -⟩ := id hk
  obtain ⟨ga, gcap, rfl, -⟩ := id hg
  clear hk hg hls hx hxs hT
  go_enter Tryd.func5, Tryd.ntmps5
  go_wp2_with fail
  obtain ⟨w1, hw1⟩ : ∃ w1, w1 = w.alloc (.cells #[.slice ka ks.length kcap, .slice ga ls.length gcap] 25) := ⟨_, rfl⟩
  rw [← hw1]
  have hh1 : w1.heap[w.heap.size]? = some (.cells #[.slice ka ks.length kcap, .slice ga ls.length gcap] 25 (0, 0)) := by rw [hw1]; exact heap_alloc_new w _
  have hb1 : Below w.heap.size w w1 := by rw [hw1]; exact (Below.refl _ w).alloc (Nat.le_refl _) _
  clear hw1
  refine (AW.out w1 hb1).mono ?_
  rintro e w2 ⟨rfl, hg2⟩
  have hh2 := (hg2.block _ (Array.getElem?_eq_some_iff.1 hh1).1).trans hh1
  have hb2 := hb1.trans (hg2.mono hb1.size)
  have y0 := cellO hh2 0
  have y1 := cellO hh2 1
  simp at y0 y1
  have m2 : w.heap.size < w2.heap.size := (Array.getElem?_eq_some_iff.1 hh2).1
  have B2 := Lib.hid hb2
  clear hg2 hh2 hb2 hh1 hb1
  go_wp2_with fail
  refine (LY.out w2 B2.out).mono ?_
  rintro e w3 ⟨h, lv, os, free, S, M, E, rfl, hh3, hlay, hol, hro, hg3, hhE⟩
  obtain ⟨la, lc, rfl⟩ : ∃ la lc, lv = .slice la os.length lc := by obtain ⟨la, lc, _, h1, -⟩ := hro; exact ⟨_, _, h1⟩
  have hfr := hlay.most
  have hM : ∀ i, M i < 18446744073709551616 := by obtain ⟨g, s, -, -, -, -, -, -, -, h, -⟩ := hh3; exact h
  have hhB : w2.heap.size + 2 ≤ w3.heap.size ∧ h < w3.heap.size := by
    obtain ⟨g, s, k1, k2, k3, k3', k4, k5, -⟩ := hh3
    have := (Array.getElem?_eq_some_iff.1 k5).1
    omega
  have HLAY := Lib.hid hlay
  have HMM := Lib.hid hM
  have HG := Lib.hid (hlay.good (by omega))
  have HC := Lib.hid (hlay.coll (N := 200) (by omega) (by omega) hM)
  have HSM := Lib.hid (hlay.small (by omega))
  have B3 := Lib.hid (B2.out.trans (hg3.mono B2.out.size))
  have HH3 := Lib.hid hh3; have HRO := Lib.hid hro
  clear hh3 hlay hro hg3 y0 y1 hM
  go_wp2_with fail
  obtain ⟨w4, hw4⟩ : ∃ w4, w4 = w3.alloc (.cells #[.int .i64 200, .slice la os.length lc, .int .u32 0] 30) := ⟨_, rfl⟩
  rw [← hw4]
  have hh4 : w4.heap[w3.heap.size]? = some (.cells #[.int .i64 200, .slice la os.length lc, .int .u32 0] 30 (0, 0)) := by rw [hw4]; exact heap_alloc_new w3 _
  have hb4 : Below w3.heap.size w3 w4 := by rw [hw4]; exact (Below.refl _ w3).alloc (Nat.le_refl _) _
  clear hw4
  have B4 := Lib.hid (B3.out.trans (hb4.mono B3.out.size))
  refine (roots_any E _ xv os xs w4 (HRO.out.later hb4) (HX.out.later B4.out) HXS.out HSM.out (by omega)).mono ?_
  rintro e w5 ⟨av, bv, r1, rfl, hr1l, hr1, hoa1, hob1, hg5⟩
  have hr1b : r1.length ≤ 6 := by omega
  clear hr1l
  have HH5 := Lib.hid ((HH3.out.later hb4).later hg5)
  have hl4 := (Array.getElem?_eq_some_iff.1 hh4).1
  have hh5 := (hg5.block _ hl4).trans hh4
  have RO5 := Lib.hid ((HRO.out.later hb4).later hg5)
  have B5 := Lib.hid (B4.out.trans (hg5.mono B4.out.size))
  have WA := Lib.hid (words_of_owns hoa1)
  have R1 := Lib.hid hr1; have HHB5 := Lib.hid hh5
  have ORD := Lib.hid (rorder_any E 200 free S M os r1 (.slice la os.length lc) bv w5 RO5.out HLAY.out (by omega) (by omega) HG.out HMM.out (by omega) HSM.out (words_of_owns hob1) (by omega) hr1)
  have y0 := cellO hh5 0
  have y1 := cellO hh5 1
  have y2 := cellO hh5 2
  have m5 : w3.heap.size < w5.heap.size := (Array.getElem?_eq_some_iff.1 hh5).1
  simp at y0 y1 y2
  clear hh4 hb4 hr1 hoa1 hob1 hg5 hl4 hh5 HH3 HRO
  go_wp2_with fail
  refine ORD.out.mono ?_
  rintro e w6 ⟨hcase, hg6⟩
  have B6 := Lib.hid (B5.out.trans (hg6.mono B5.out.size))
  rcases hcase with rfl | ⟨m, kk, kov, hm, hrst, rfl, hok⟩
  · clear hg6 ORD y0 y1 y2
    go_wp2_with fail
    go_ret
    exact ⟨rfl, B6.out⟩
  · obtain ⟨hstay, hall, hkl⟩ := list_stay HLAY.out (by omega) HG.out (by omega) hm hrst
    have ONE := Lib.hid (list_once HG.out hrst)
    obtain ⟨S2, M2, F, e1, e2, e3, e4, e5, e6, e7, e8⟩ := after_all HLAY.out HG.out HC.out hstay R1.out hm hrst
    have HKK := Lib.hid hrst.lt
    obtain ⟨T, hTT⟩ : ∃ T, (ordQ 200 S M r1 m).1.1 = T := ⟨_, rfl⟩
    rw [hTT] at hstay hall hkl e1 e2 e3 e5 e6 e7 e8
    have hkb : kk.length ≤ 200 := by rw [hkl]; exact cnt_le T 200
    have STAY := Lib.hid hstay; have ALL := Lib.hid hall; have E1 := Lib.hid e1; have E2 := Lib.hid e2; have E3 := Lib.hid e3; have E4 := Lib.hid e4; have E5 := Lib.hid e5; have E6 := Lib.hid e6; have E7 := Lib.hid e7; have E8 := Lib.hid e8
    obtain ⟨koa, koc, rfl⟩ := owns_len hok
    have KC6 := Lib.hid (show ∀ i, i < kk.length → ∃ g, koa = some ⟨g, 0, none⟩ ∧ w5.heap.size ≤ g ∧ g < w6.heap.size ∧ w6.cell? ⟨g, i, none⟩ = some (.int .i64 (kk.getD i 0 : Int)) from fun i hi => by
      obtain ⟨g, cp, he, hgB⟩ := owns_shape hok (by omega)
      simp only [Value.slice.injEq] at he
      obtain ⟨rfl, -, rfl⟩ := he
      have hc : w6.cell? ⟨g, i, none⟩ = some (.int .i64 (kk.getD i 0 : Int)) := by
        rw [hok.cellAt i (by omega), List.getD_eq_getElem?_getD]
        simp [idxVals, List.getElem?_map, List.getElem?_eq_getElem hi]
      exact ⟨g, rfl, hgB, lt_of_cell hc, hc⟩)
    have HH6 := Lib.hid (HH5.out.later hg6)
    have WA6 := Lib.hid (WA.out.later hg6)
    have RO6 := Lib.hid (RO5.out.later hg6)
    have HHB6 := Lib.hid ((hg6.block _ m5).trans HHB5.out)
    have hs6 := hg6.size
    have COL := Lib.hid (collect_any _ h 200 free S M r1 _ w6 HH6.out (by have := B4.out.size; have := B5.out.size; omega) HG.out HC.out WA6.out R1.out (by omega) (tab_later HT.out B6.out) (by omega) (by omega))
    clear hstay hall hkl e1 e2 e3 e4 e5 e6 e7 e8 hm hrst hok hg6 ORD hTT y0 y1 y2
    go_wp2_with fail
    refine COL.out.mono ?_
    rintro e w7 ⟨cv, cr, rfl, hbB, hbq, hcase⟩
    rcases hcase with ⟨hbad, -⟩ | ⟨rfl, T2, hst2, hout, hh7⟩
    · exact absurd hbad STAY.out.good
    · obtain rfl := hst2.unique STAY.out
      have hh7 : HeapAt w7 (w2.heap.size + 2) h 200 (2 + ksum M T 200) (newS 200 M T) (newM 200 M T) := hh7
      rw [E1.out, E2.out, E3.out] at hh7
      have hs7 := hbB.size
      have HH7 := Lib.hid hh7
      have B7 := Lib.hid (B6.out.trans (hbB.mono (by have := B2.out.size; omega)))
      have RO7 := Lib.hid (RO6.out.stays fun q hq1 hq2 => hbq q (by omega) hq2)
      have HHB7 := Lib.hid ((hbq w3.heap.size (by omega) (by omega)).trans HHB6.out)
      have ORD2 := Lib.hid (order_words _ h 200 F S2 M2 (r1.map (turnM M T)) cv w7 hh7 E4.out (words_of_owns (l := r1.map (turnM M T)) (n := r1.length) hout) E6.out (by rw [List.length_map]; omega))
      have KC7 := Lib.hid (show ∀ i, i < kk.length → ∃ g, koa = some ⟨g, 0, none⟩ ∧ g < w7.heap.size ∧ w7.cell? ⟨g, i, none⟩ = some (.int .i64 (kk.getD i 0 : Int)) from fun i hi => by
        obtain ⟨g, h1, h2, h3, h4⟩ := KC6.out i hi
        exact ⟨g, h1, by omega, (World.cell?_of_block (a := ⟨g, i, none⟩) (hbq g (by omega) h3)).trans h4⟩)
      clear hh7 hbB hbq hout hst2 COL
      go_wp2_with fail
      refine ORD2.out.mono ?_
      rintro e w8 ⟨hcase, hg8⟩
      rcases hcase with ⟨hbad, -⟩ | ⟨T3, nv, nl, hst3, rfl, hnw, hnlen, m3, e1, -, e3⟩
      · exact absurd hbad E5.out
      · obtain rfl := E8.out nl m3 e1 e3
        obtain ⟨na, nc, rfl⟩ := owns_len hnw
        have HNW := Lib.hid (words_of_owns (l := kk.map fun k => turnM M T (atR os k * 2)) hnw)
        have HH8 := Lib.hid (HH7.out.later hg8)
        have B8 := Lib.hid (B7.out.trans (hg8.mono B7.out.size))
        have RO8 := Lib.hid (RO7.out.later hg8)
        have HHB8 := Lib.hid ((hg8.block w3.heap.size (by omega)).trans HHB7.out)
        have hs8 := hg8.size
        have KC8 := Lib.hid (show ∀ i, i < kk.length → ∃ g, koa = some ⟨g, 0, none⟩ ∧ g < w8.heap.size ∧ w8.cell? ⟨g, i, none⟩ = some (.int .i64 (kk.getD i 0 : Int)) from fun i hi => by
          obtain ⟨g, h1, h2, h3⟩ := KC7.out i hi
          exact ⟨g, h1, by omega, (hg8.cell (p := ⟨g, i, none⟩) h2).trans h3⟩)
        rw [List.length_map]
        have hmm := fun W => @run_makeMap Tryd.prog 62 W
        clear hst3 hnw hnlen e1 e3 hg8 ORD2 KC6 KC7
        go_upto_region 17 with fail
        all_goals try (exfalso; go_light; omega)
        clear hmm
        obtain ⟨w9, hw9⟩ : ∃ w9, w9 = w8.alloc (.cells #[.slice na kk.length nc] 33) := ⟨_, rfl⟩
        have z9 : w9.heap.size = w8.heap.size + 1 := by rw [hw9]; simp
        have o9 : w9.heap[w8.heap.size]? = some (.cells #[.slice na kk.length nc] 33 (0, 0)) := by rw [hw9]; exact heap_alloc_new w8 _
        obtain ⟨w10, hw10⟩ : ∃ w10, w10 = w9.alloc (.map #[] 0) := ⟨_, rfl⟩
        have z10 : w10.heap.size = w8.heap.size + 2 := by rw [hw10]; simp; omega
        have p10 : w10.ownsMap Tryd.prog 48 (plainElem (H := Unit) Tryd.prog 3) (w8.heap.size + 1) 0 (placeD Unit (fAt os kk) 0) := by
          rw [hw10, ← z9]; exact World.ownsMap_made _ _ _ _
        have o10 : w10.heap[w8.heap.size]? = some (.cells #[.slice na kk.length nc] 33 (0, 0)) := by rw [hw10, heap_alloc_old w9 _ (by omega)]; exact o9
        obtain ⟨w11, hw11⟩ : ∃ w11, w11 = w10.alloc (.cells #[.map (some (w8.heap.size + 1))] 62) := ⟨_, rfl⟩
        have m11 : w11.heap[w8.heap.size + 2]? = some (.cells #[.map (some (w8.heap.size + 1))] 62 (0, 0)) := by
          rw [hw11, ← z10]; exact heap_alloc_new w10 _
        have o11 : w11.heap[w8.heap.size]? = some (.cells #[.slice na kk.length nc] 33 (0, 0)) := by rw [hw11, heap_alloc_old w10 _ (by omega)]; exact o10
        have b11 : Below w8.heap.size w8 w11 := by rw [hw11, hw10, hw9]; exact (((Below.refl _ w8).alloc (Nat.le_refl _) _).alloc (by simp) _).alloc (by simp; omega) _
        rw [← hw9, ← hw10, ← hw11]
        obtain ⟨Bm, hBm⟩ : ∃ Bm, w8.heap.size + 1 + 1 = Bm := ⟨_, rfl⟩
        obtain ⟨bm, hbm⟩ : ∃ bm, w8.heap.size + 1 = bm := ⟨_, rfl⟩
        obtain ⟨Bo, hBo⟩ : ∃ Bo, w8.heap.size = Bo := ⟨_, rfl⟩
        have p11 : w11.ownsMap Tryd.prog 48 (plainElem (H := Unit) Tryd.prog 3) bm 0 (placeD Unit (fAt os kk) 0) := by
          rw [hw11, ← hbm]; exact p10.kept (World.grownBy_alloc w10 _ none) (by simp)
        rw [show w8.heap.size + 2 = Bm by omega, hbm] at m11
        rw [hBm, hbm]
        rw [hBo] at o11 b11 ⊢
        have zz : Bo < bm ∧ bm < Bm := by omega
        have P11 := Lib.hid p11; have M11 := Lib.hid m11; have O11 := Lib.hid o11; have B11 := Lib.hid b11
        have hB3 : w3.heap.size < Bo := by omega
        have hBo2 := Lib.hid hBo
        clear hw9 hw10 hw11 z9 o9 z10 p10 o10 p11 m11 o11 b11 hbm hBm hBo
        go_wp2_with fail
        go_loopg [77] kk.length (fun gg s77 wr => ∃ i : Nat, gg = kk.length - i ∧ i ≤ kk.length ∧ s77 = .int .i64 (i : Int) ∧ wr.ownsMap Tryd.prog 48 (plainElem (H := Unit) Tryd.prog 3) bm i (placeD Unit (fAt os kk) i) ∧
          wr.heap[Bm]? = some (.cells #[.map (some bm)] 62 (0, 0)) ∧ wr.heap[Bo]? = some (.cells #[.slice na kk.length nc] 33 (0, 0)) ∧ Below Bo w8 wr)
        case atStart => exact ⟨0, rfl, by omega, rfl, P11.out, M11.out, O11.out, B11.out⟩
        case round =>
          obtain ⟨i, hgi, hi, rfl, hp, hm, ho, hb⟩ := hrel
          obtain ⟨wi, hwi⟩ : ∃ z, z = wr := ⟨_, rfl⟩
          subst hwi
          have HGI := Lib.hid hgi; have HP := Lib.hid hp; have HM := Lib.hid hm; have HO := Lib.hid ho; have HB := Lib.hid hb
          have hb8 : Below w8.heap.size w8 wi := by rw [hBo2.out]; exact hb
          clear hgi hp ho hb P11 M11 O11 B11
          by_cases hlt : i < kk.length
          · obtain ⟨g, rfl, hgl, hc⟩ := KC8.out i hlt
            have hc := (hb8.cell (p := ⟨g, i, none⟩) hgl).trans hc
            have hkI := HKK.out (kk.getD i 0) (by rw [List.getD_eq_getElem?_getD, List.getElem?_eq_getElem hlt]; exact List.getElem_mem hlt)
            obtain ⟨k, hk⟩ : ∃ k, kk.getD i 0 = k := ⟨_, rfl⟩
            have HKE := Lib.hid hk
            rw [hk] at hc hkI
            obtain ⟨la', lc', hle, hl1, hl2, hget⟩ := (RO8.out.later hb8).get
            simp only [Value.slice.injEq] at hle
            obtain ⟨rfl, -, rfl⟩ := hle
            have hok := List.getElem?_eq_getElem hkI
            obtain ⟨rb, rq, wv, bv', rfl, hrb, c0, -⟩ := hget k os[k] hok
            have hAs := HSM.out os[k] (List.getElem_mem hkI)
            rw [← atR_eq hok] at c0 hAs
            have HAK := Lib.hid (show fAt os kk i = 2 * atR os k by show 2 * atR os (kk.getD i 0) = _; rw [HKE.out])
            obtain ⟨A, hA⟩ : ∃ A, atR os k = A := ⟨_, rfl⟩
            rw [hA] at c0 hAs HAK
            have hxx := (hb8.block w3.heap.size (by omega)).trans HHB8.out
            have y0 := cellO hxx 0
            have y1 := cellO hxx 1
            have y2 := cellO hxx 2
            have m0 := cellO hm 0
            simp at y0 y1 y2 m0
            have hkI2 : (k : Int) < os.length := by omega
            have hiI2 : (i : Int) < kk.length := by omega
            have HB8 := Lib.hid hb8
            unfold maxLen at hl2
            have hq1 : IntKind.u64.wrap (A : Int) = (A : Int) := by simp [IntKind.wrap, IntKind.bits, IntKind.signed]; omega
            have hq2 : IntKind.u64.wrap (2 * (A : Int)) = 2 * (A : Int) := by simp [IntKind.wrap, IntKind.bits, IntKind.signed]; omega
            clear hk hget hok hxx hA hb8 hm
            go_upto_region 20 with fail
            all_goals try (exfalso; go_light; omega)
            go_still_tail 10, (by kernel_rfl)
            change wpList _ _ _ _ _ wi.drew
            obtain ⟨w12, hw12⟩ : ∃ z, z = wi.drew := ⟨_, rfl⟩
            rw [← hw12]
            have hp12 : w12.ownsMap Tryd.prog 48 (plainElem (H := Unit) Tryd.prog 3) bm i (placeD Unit (fAt os kk) i) := by rw [hw12]; exact HP.out
            have hm12 : w12.heap[Bm]? = some (.cells #[.map (some bm)] 62 (0, 0)) := by rw [hw12]; exact HM.out
            have ho12 : w12.heap[Bo]? = some (.cells #[.slice na kk.length nc] 33 (0, 0)) := by rw [hw12]; exact HO.out
            have hb12 : Below Bo w8 w12 := by rw [hw12]; exact HB.out.drew
            have HP12 := Lib.hid hp12; have HM12 := Lib.hid hm12; have HO12 := Lib.hid ho12; have HB12 := Lib.hid hb12
            clear hw12 hp12 hm12 ho12 hb12 y0 y1 y2 m0 c0 hc hq1 hq2
            go_wp2_with (at_mapUpdate; refine wpList_mapUpdate_own _ rfl _ _ _ 62 rfl 48 3 keyLaw Tryd.underlying62 _ bm i _ rfl HP12.out (by unfold maxLen; omega) _ _ _ rfl rfl (keyOf_int_mk Tryd.underlying48 (a := 2 * (A : Int)) (WalkArith.wf_u64 (by omega))) _ [] (plainElem_int Tryd.underlying3 (WalkArith.wf_i64 (by omega))) ?_; intro w13 hown1 hgrow1)
            have HP13 := Lib.hid (show w13.ownsMap Tryd.prog 48 (plainElem (H := Unit) Tryd.prog 3) bm (i + 1) (placeD Unit (fAt os kk) (i + 1)) by
              show w13.ownsMap _ _ _ bm (i + 1) ((placeD Unit (fAt os kk) i).put (.int .u64 ((fAt os kk i : Nat) : Int)) (.lit (.int .i64 (i : Int))))
              rw [HAK.out, show ((2 * A : Nat) : Int) = 2 * (A : Int) by omega]
              exact hown1)
            have hs12 := HB12.out.size
            have HM13 := Lib.hid ((hgrow1.block Bm (Array.getElem?_eq_some_iff.1 HM12.out).1 (by simp; omega)).trans HM12.out)
            have HO13 := Lib.hid ((hgrow1.block Bo (Array.getElem?_eq_some_iff.1 HO12.out).1 (by simp; omega)).trans HO12.out)
            have HB13 := Lib.hid (HB12.out.grown hgrow1 (by have := hBo2.out; omega) (fun q hq => by simp at hq; omega))
            clear hown1 hgrow1 hs12
            go_wp2_with fail
            go_roundg (kk.length - (i + 1))
            case measure => rw [HGI.out]; omega
            case rel => exact ⟨i + 1, rfl, by omega, by go_num, HP13.out, HM13.out, HO13.out, HB13.out⟩
          · obtain rfl : i = kk.length := by omega
            have hb8' := hb8
            have SL := Lib.hid (fun W y (hW : Below wi.heap.size wi W) (hy : Wd S M r1 y) (hys : y < 18446744073709551616) => same_led (H := Unit) HLAY.out HC.out STAY.out kk HKK.out ALL.out ONE.out Bm Bo bm (.slice na kk.length nc) W ((hW.block Bm (Array.getElem?_eq_some_iff.1 HM.out).1).trans HM.out) ((hW.block Bo (Array.getElem?_eq_some_iff.1 HO.out).1).trans HO.out) (HP.out.kept (grown_of_below hW) (by simp)) ((by have := HNW.out.later hb8'; rw [List.length_map] at this; exact this : WordsAt wi _ _).later hW) hy hys)
            have BWi := Lib.hid (B8.out.trans (hb8.mono B8.out.size))
            have HHi := Lib.hid (HH8.out.later hb8)
            have ROi := Lib.hid (RO8.out.later hb8)
            have HHBi := Lib.hid ((hb8.block w3.heap.size (by omega)).trans HHB8.out)
            have NWi := Lib.hid (by have := HNW.out.later hb8; rw [List.length_map] at this; exact this : WordsAt wi (.slice na kk.length nc) (kk.map fun k => turnM M T (atR os k * 2)))
            have KCi := Lib.hid (show ∀ i, i < kk.length → ∃ g, koa = some ⟨g, 0, none⟩ ∧ g < wi.heap.size ∧ wi.cell? ⟨g, i, none⟩ = some (.int .i64 (kk.getD i 0 : Int)) from fun i hi => by
              obtain ⟨g, h1, h2, h3⟩ := KC8.out i hi
              exact ⟨g, h1, by have := hb8.size; omega, (hb8.cell (p := ⟨g, i, none⟩) h2).trans h3⟩)
            have hsi : Bo < wi.heap.size ∧ w3.heap.size < wi.heap.size := by
              have := (Array.getElem?_eq_some_iff.1 HO.out).1
              omega
            have HMi := HM; have HOi := HO
            clear hb8 hb8' hm HP HB HGI HM HO
            go_wp2_with fail
            all_goals try (exfalso; go_light; omega)
            go_loopg [96] kk.length (fun gg s96 wr => ∃ i : Nat, gg = kk.length - i ∧ i ≤ kk.length ∧ s96 = .int .i64 (i : Int) ∧ Below wi.heap.size wi wr)
            case atStart => exact ⟨0, rfl, by omega, rfl, Below.refl _ _⟩
            case round =>
              obtain ⟨i, hgi, hi, rfl, hb⟩ := hrel
              obtain ⟨wj, hwj⟩ : ∃ z, z = wr := ⟨_, rfl⟩
              subst hwj
              have HGI := Lib.hid hgi; have HB := Lib.hid hb
              clear hgi
              by_cases hlt : i < kk.length
              · obtain ⟨g, rfl, hgl, hc⟩ := KCi.out i hlt
                have hc := (hb.cell (p := ⟨g, i, none⟩) hgl).trans hc
                have hgk : kk[i]? = some (kk.getD i 0) := by rw [List.getD_eq_getElem?_getD, List.getElem?_eq_getElem hlt]; rfl
                have hkm := List.mem_of_getElem? hgk
                have hkI := HKK.out _ hkm
                obtain ⟨k, hk⟩ : ∃ k, kk.getD i 0 = k := ⟨_, rfl⟩
                rw [hk] at hc hkI hgk hkm
                have hok := List.getElem?_eq_getElem hkI
                have hTk : T os[k].at_ = true := (ALL.out _).2 ⟨k, hkm, atR_eq hok⟩
                have hBH := E7.out k os[k] hok hTk
                have hWd := fun y hy => behind_wd HLAY.out STAY.out hok hTk (y := y) hy
                have hsmw := words_small HLAY.out HMM.out hok
                have hcl := (HLAY.out.obj k os[k] hok).small
                obtain ⟨na', nc', hne, hn1, hn2, hn3⟩ := NWi.out.get
                simp only [Value.slice.injEq] at hne
                obtain ⟨rfl, -, rfl⟩ := hne
                obtain ⟨nb, no, rfl, hnl, hcn⟩ := hn3 i (by rw [List.length_map]; exact hlt)
                have htk : (kk.map fun k => turnM M T (atR os k * 2))[i]'(by rw [List.length_map]; exact hlt) = npl M T os[k].at_ * 2 := by
                  rw [List.getElem_map, show kk[i] = k from (List.getElem?_eq_some_iff.1 hgk).2, atR_eq hok]
                  exact turn_obj (by have := (HC.out.lt (STAY.out.sub hTk)).2.2; omega) (HC.out.lt (STAY.out.sub hTk)).2.1 hTk
                rw [htk] at hcn
                obtain ⟨P, hP⟩ : ∃ P, npl M T os[k].at_ = P := ⟨_, rfl⟩
                rw [hP] at hcn hBH
                have hcn : wi.cell? ⟨nb, no + i, none⟩ = some (.int .u64 ((P : Int) * 2)) := by rw [hcn]; congr 2
                have HCN := Lib.hid hcn
                have hcn := (hb.cell (p := ⟨nb, no + i, none⟩) hnl).trans hcn
                obtain ⟨la', lc', hle, hl1, hl2, hget⟩ := ROi.out.get
                simp only [Value.slice.injEq] at hle
                obtain ⟨rfl, -, rfl⟩ := hle
                obtain ⟨rb, rq, wv, bv', rfl, hrb, c0, c1, c2, c3, c4, c5, c6, c7, c8, c9, -⟩ := hget k os[k] hok
                have HD := Lib.hid (fun W (hW : Below wi.heap.size wi W) => hHead_yes _ h 200 F P S2 M2 W (HHi.out.later hW) hBH.one hBH.fit hBH.there hBH.ok)
                rw [hBH.cls, hBH.kind, hBH.size] at HD
                have GT := Lib.hid (fun W (j : Nat) (hW : Below wi.heap.size wi W) (hk2 : os[k].kind ≠ 2) (hj : j < 3) => hget_yes _ h 200 F P j S2 M2 W (HHi.out.later hW) hBH.one (by have := (hBH.words hk2).1; omega) hBH.there hBH.ok (by rw [hBH.kind]; exact hk2) (by rw [hBH.size]; omega))
                have SLc := Lib.hid (fun W (hW : Below wi.heap.size wi W) => SL.out W os[k].cls hW (hWd _ List.mem_cons_self) hcl)
                have WJ := Lib.hid (show ∀ j, j < os[k].words.length → os[k].kind ≠ 2 ∧ j < 3 ∧ M2 (P + 2 + j) = turnM M T (os[k].words.getD j 0) ∧ Wd S M r1 (os[k].words.getD j 0) ∧ os[k].words.getD j 0 < 18446744073709551616 from fun j hj => by
                  have hk2 : os[k].kind ≠ 2 := fun e => by rw [hBH.none e] at hj; simp at hj
                  obtain ⟨-, w2, w3⟩ := hBH.words hk2
                  have hmem : os[k].words.getD j 0 ∈ os[k].words := by rw [List.getD_eq_getElem?_getD, List.getElem?_eq_getElem hj]; exact List.getElem_mem hj
                  exact ⟨hk2, by omega, w3 j (by omega), hWd _ (List.mem_cons_of_mem _ hmem), hsmw.2 _ hmem⟩)
                have hwl := hsmw.1
                have o0 := cellO ((hb.block Bo hsi.1).trans HOi.out) 0
                have hxx := (hb.block w3.heap.size hsi.2).trans HHBi.out
                have y1 := cellO hxx 1
                simp at o0 y1
                have WV := Lib.hid c8
                obtain ⟨wa, wc, rfl, -⟩ := id c8
                obtain ⟨ba, bn, rfl, -⟩ := id c9
                have hkI2 : (k : Int) < os.length := by omega
                have hsj := hb.size
                have hBoj : Bo < wj.heap.size := by omega
                unfold maxLen at hl2 hn2
                simp at hn1
                clear hk hgk hkm hok hTk hBH hWd hsmw hcl hn3 htk hP hget hxx c8 c9
                obtain ⟨atv, hatv⟩ : ∃ z, os[k].at_ = z := ⟨_, rfl⟩
                obtain ⟨cls, hcls⟩ : ∃ z, os[k].cls = z := ⟨_, rfl⟩
                obtain ⟨kd, hkd⟩ : ∃ z, os[k].kind = z := ⟨_, rfl⟩
                obtain ⟨ws, hws⟩ : ∃ z, os[k].words = z := ⟨_, rfl⟩
                obtain ⟨bs, hbs⟩ : ∃ z, os[k].bytes = z := ⟨_, rfl⟩
                rw [hatv] at c0
                rw [hcls] at c1 HD SLc
                rw [hkd] at c2 HD GT WJ
                rw [hws] at c6 WJ WV hwl
                rw [hbs] at c7
                clear hatv hcls hkd hws hbs
                obtain ⟨tcl, htcl⟩ : ∃ z, turnM M T cls = z := ⟨_, rfl⟩
                rw [htcl] at HD SLc
                obtain ⟨hv, hhv⟩ : ∃ z, hH (M2 (P + 1)) = z := ⟨_, rfl⟩
                obtain ⟨mv, hmv⟩ : ∃ z, hM (M2 (P + 1)) = z := ⟨_, rfl⟩
                rw [hhv, hmv] at HD
                clear htcl hhv hmv
                have HDj := Lib.hid (HD.out wj hb)
                clear hb
                go_wp2_with fail
                all_goals try (exfalso; go_light; omega)
                refine HDj.out.mono ?_
                rintro e w15 ⟨rfl, hg15⟩
                have hsg := hg15.size
                have HB15 := Lib.hid (HB.out.trans (hg15.mono hsj))
                have d0 := (HB15.out.cell (p := ⟨rb, rq + k * 8, none⟩) hrb).trans c0
                have d1 := (HB15.out.cell (p := ⟨rb, rq + k * 8 + 1, none⟩) hrb).trans c1
                have d2 := (HB15.out.cell (p := ⟨rb, rq + k * 8 + 2, none⟩) hrb).trans c2
                have d3 := (HB15.out.cell (p := ⟨rb, rq + k * 8 + 3, none⟩) hrb).trans c3
                have d4 := (HB15.out.cell (p := ⟨rb, rq + k * 8 + 4, none⟩) hrb).trans c4
                have d5 := (HB15.out.cell (p := ⟨rb, rq + k * 8 + 5, none⟩) hrb).trans c5
                have d6 := (HB15.out.cell (p := ⟨rb, rq + k * 8 + 6, none⟩) hrb).trans c6
                have d7 := (HB15.out.cell (p := ⟨rb, rq + k * 8 + 7, none⟩) hrb).trans c7
                have e1 := (hg15.cell (p := ⟨w3.heap.size, 1, none⟩) (show w3.heap.size < wj.heap.size by omega)).trans y1
                have hrb' : rb < w15.heap.size := by omega
                have hw3' : w3.heap.size < w15.heap.size := by omega
                clear hg15 c0 c1 c2 c3 c4 c5 c6 c7 y1 o0 hcn hc HDj HD
                go_upto_region 28 with fail
                obtain ⟨w16, hw16⟩ : ∃ z, z = w15.alloc (.cells #[.int .u64 (tcl : Int), .int .i64 kd, .int .i64 3, .int .u32 hv, .bool mv] 70) := ⟨_, rfl⟩
                have z16 : w16.heap.size = w15.heap.size + 1 := by rw [hw16]; simp
                have x16 : w16.heap[w15.heap.size]? = some (.cells #[.int .u64 (tcl : Int), .int .i64 kd, .int .i64 3, .int .u32 hv, .bool mv] 70 (0, 0)) := by rw [hw16]; exact heap_alloc_new w15 _
                obtain ⟨w17, hw17⟩ : ∃ z, z = w16.alloc (.cells #[.int .i64 (atv : Int), .int .u64 (cls : Int), .int .i64 kd, .int .i64 3, .int .u32 0, .bool false, .slice wa ws.length wc, .slice ba bs.length bn] 66) := ⟨_, rfl⟩
                have x17 : w17.heap[w15.heap.size + 1]? = some (.cells #[.int .i64 (atv : Int), .int .u64 (cls : Int), .int .i64 kd, .int .i64 3, .int .u32 0, .bool false, .slice wa ws.length wc, .slice ba bs.length bn] 66 (0, 0)) := by
                  rw [hw17, ← z16]; exact heap_alloc_new w16 _
                have x17' : w17.heap[w15.heap.size]? = some (.cells #[.int .u64 (tcl : Int), .int .i64 kd, .int .i64 3, .int .u32 hv, .bool mv] 70 (0, 0)) := by rw [hw17, heap_alloc_old w16 _ (by omega)]; exact x16
                have b17 : Below w15.heap.size w15 w17 := by rw [hw17, hw16]; exact ((Below.refl _ w15).alloc (Nat.le_refl _) _).alloc (by simp) _
                rw [← hw16, ← hw17]
                have HB17 := Lib.hid (HB15.out.trans (b17.mono HB15.out.size))
                have hx0 := cellO x17' 0
                have hx1 := cellO x17' 1
                have hx2 := cellO x17' 2
                have ho1 := cellO x17 1
                have ho2 := cellO x17 2
                have ho3 := cellO x17 3
                have ho6 := cellO x17 6
                simp at hx0 hx1 hx2 ho1 ho2 ho3 ho6
                have m17 := (Array.getElem?_eq_some_iff.1 x17).1
                have m17' := (Array.getElem?_eq_some_iff.1 x17').1
                have X17 := Lib.hid x17
                have SLd := Lib.hid (SLc.out w17 HB17.out)
                obtain ⟨Q, hQ⟩ : ∃ Q, w15.heap.size = Q := ⟨_, rfl⟩
                rw [hQ] at hx0 hx1 hx2 ho1 ho2 ho3 ho6 m17 m17' X17 ⊢
                clear hw16 hw17 z16 x16 x17 x17' b17 d0 d1 d2 d3 d4 d5 d6 d7 e1 hQ
                have hkk1 : (kd != kd) = false := by simp
                go_wp2_with fail
                all_goals try (exfalso; go_light; omega)
                refine SLd.out.mono ?_
                rintro e w18 ⟨rfl, hg18⟩
                have HB18 := Lib.hid (HB17.out.trans (hg18.mono HB17.out.size))
                have HX18 := Lib.hid ((hg18.block (Q + 1) m17).trans X17.out)
                have hs18 := hg18.size
                have ho6 := (hg18.cell (p := ⟨Q + 1, 6, none⟩) m17).trans ho6
                clear hg18 hx0 hx1 hx2 ho1 ho2 ho3 hkk1
                go_wp2_with fail
                all_goals try (exfalso; go_light; omega)
                have hwI : ws.length ≤ 7 := by omega
                clear hrb' hw3' hsg
                go_loopg [146] ws.length (fun gg s146 wx => ∃ j : Nat, gg = ws.length - j ∧ j ≤ ws.length ∧ s146 = .int .i64 (j : Int) ∧ Below w18.heap.size w18 wx)
                case atStart => exact ⟨0, rfl, by omega, rfl, Below.refl _ _⟩
                case round =>
                  obtain ⟨j, hgj, hj, rfl, hbx⟩ := hrel
                  obtain ⟨wy, hwy⟩ : ∃ z, z = wr := ⟨_, rfl⟩
                  subst hwy
                  have HGJ := Lib.hid hgj; have HBX := Lib.hid hbx
                  have HBY := Lib.hid (HB18.out.trans (hbx.mono HB18.out.size))
                  clear hgj
                  by_cases hjl : j < ws.length
                  · obtain ⟨k2, j3, we, wd, wsm⟩ := WJ.out j hjl
                    have o0 := cellO ((HBY.out.block Bo hsi.1).trans HOi.out) 0
                    simp at o0
                    have hcn := (HBY.out.cell (p := ⟨nb, no + i, none⟩) hnl).trans HCN.out
                    have ho6 := (hbx.cell (p := ⟨Q + 1, 6, none⟩) (show Q + 1 < w18.heap.size by omega)).trans ho6
                    obtain ⟨wa', wc', hwe, hw1, hw2, hw3⟩ := (WV.out.later HBY.out).at
                    simp only [Value.slice.injEq] at hwe
                    obtain ⟨rfl, -, rfl⟩ := hwe
                    obtain ⟨wb, wo, rfl, hwb, hcw⟩ := hw3 j hjl
                    have GTj := GT.out wy j HBY.out k2 j3
                    rw [we] at GTj
                    have SLj := fun W (hW : Below wi.heap.size wi W) => SL.out W _ hW wd wsm
                    obtain ⟨y, hy⟩ : ∃ y, ws.getD j 0 = y := ⟨_, rfl⟩
                    rw [hy] at hcw GTj SLj wsm
                    obtain ⟨ty, hty⟩ : ∃ ty, turnM M T y = ty := ⟨_, rfl⟩
                    rw [hty] at GTj SLj
                    have GTH := Lib.hid GTj; have SLH := Lib.hid SLj
                    unfold maxLen at hw2
                    have hszy := hbx.size
                    clear hy hty GTj SLj we wd k2 j3 hw3 hbx
                    go_wp2_with fail
                    all_goals try (exfalso; go_light; omega)
                    refine GTH.out.mono ?_
                    rintro e w20 ⟨rfl, hg20⟩
                    have HB20 := Lib.hid (HBY.out.trans (hg20.mono HBY.out.size))
                    have HBX20 := Lib.hid (HBX.out.trans (hg20.mono hszy))
                    have ho6 := (hg20.cell (p := ⟨Q + 1, 6, none⟩) (show Q + 1 < wy.heap.size by omega)).trans ho6
                    have hcw := (hg20.cell (p := ⟨wb, wo + j, none⟩) hwb).trans hcw
                    have SL20 := Lib.hid (SLH.out w20 HB20.out)
                    clear hg20 o0 hcn GTH SLH
                    go_wp2_with fail
                    all_goals try (exfalso; go_light; omega)
                    refine SL20.out.mono ?_
                    rintro e w21 ⟨rfl, hg21⟩
                    have HBX21 := Lib.hid (HBX20.out.trans (hg21.mono HBX20.out.size))
                    clear hg21 ho6 hcw
                    go_wp2_with fail
                    all_goals try (exfalso; go_light; omega)
                    go_roundg (ws.length - (j + 1))
                    case measure => rw [HGJ.out]; omega
                    case rel => exact ⟨j + 1, rfl, by omega, by go_num, HBX21.out⟩
                  · clear hbx
                    go_wp2_with fail
                    all_goals try (exfalso; go_light; omega)
                    go_roundg (kk.length - (i + 1))
                    case measure => rw [HGI.out]; omega
                    case rel => exact ⟨i + 1, rfl, by omega, by go_num, HBY.out⟩
              · have HBZ := Lib.hid (BWi.out.trans (hb.mono BWi.out.size))
                clear hb
                go_wp2_with fail
                all_goals try (exfalso; go_light; omega)
                go_ret
                exact ⟨rfl, HBZ.out⟩
theorem own : ownKnob Tryd.prog.godebug = none := by kernel_rfl
theorem laidOut : laidOutB Tryd.prog = true := by kernel_rfl
set_option maxRecDepth 100000 in
theorem lifted (os : Os) (started : os.Started) (H : Type) (enc : TypeId × Value → H) :
    ReturnsInHanded {} Tryd.checked os 5 .any (fun w args => (Rows.gcSameSpec.pre enc Tryd.prog Tryd.f5 Rows.gcSameRow.domain false w args ∧ laidMet Tryd.prog Rows.gcSameRow.laid w) ∧ sizedMet enc Tryd.prog Tryd.f5 (OpenSpec.ofChange Rows.gcSameSpec) false w args)
      (Rows.gcSameSpec.post enc Tryd.prog Tryd.f5 false true false false) := by
  refine returnsInHanded_of_change_and (C := Tryd.checked) (X := fun w _ => laidMet Tryd.prog Rows.gcSameRow.laid w) (fun _ _ _ hh h => h.of_heap hh) own started (by kernel_rfl) Tryd.func5
    (ChangeSpec.witness_at (enc := enc) (C := Tryd.checked) (os := os) (X := fun w _ => laidMet Tryd.prog Rows.gcSameRow.laid w) false (laidWorld os) #[.agg #[.slice none 0 0, .slice none 0 0], .slice none 0 0] 8 rfl (by kernel_rfl) (by kernel_rfl) (by kernel_rfl) (by kernel_rfl) (by kernel_rfl) (laid_met os _)) ?_
  intro W base args ds gs before hval0 hW hcnd hsz0 hL _
  have hval : ∀ (j : Nat) t v, Tryd.f5.params[j]? = some t → args[j]? = some v → Value.okWide Tryd.prog W .any base t v := hval0
  have hW' := hW
  obtain ⟨p, q, hA0, hV, rfl, hfz, hnd⟩ := hW
  have hA : DataW.TrodAll enc Tryd.prog W 0 (fun _ => true) true Tryd.f5.params.toList args.toList ds p := hA0
  rw [Tryd.params5] at hA hval
  obtain ⟨v0, vs0, d0, ds0, p0, q0, hargs, rfl, rfl, h0, r0⟩ := trodAll_cons hA
  obtain ⟨v1, vs1, d1, ds1, p1, q1, rfl, rfl, rfl, h1, r1⟩ := trodAll_cons r0
  obtain ⟨rfl, rfl, rfl⟩ := trodAll_nil r1
  obtain rfl : args = #[v0, v1] := by cases args; simp_all
  obtain ⟨rfl, rfl⟩ := trodVars_none hV
  have k0 := h0
  have lt0 : ∀ x ∈ p0, x.block < W.heap.size := by obtain ⟨m, hm⟩ := k0; exact DataW.trod_lt m _ _ _ hm
  have k1 := h1
  have lt1 : ∀ x ∈ p1, x.block < W.heap.size := by obtain ⟨m, hm⟩ := k1; exact DataW.trod_lt m _ _ _ hm
  obtain ⟨kv, gv, ks, ls, rfl, hk, hg, hls⟩ := open_graph (hval 0 25 v0 rfl rfl) h0
  obtain ⟨l1, hl1⟩ := open_nums Tryd.underlying23 Tryd.underlying48 (by kernel_rfl) (hval 1 23 v1 rfl rfl) h1
  obtain ⟨xs, hx, hxs⟩ := words_of_nums hl1
  have hT := tab_of_laid hL
  clear hA0 hval0
  refine (walk kv gv v1 ks ls xs W hk hg hls hx hxs hT).mono fun e W' ⟨he, bel⟩ => ?_
  subst he
  exact ⟨_, rfl, _, _, _, [], _, [], hW', trodAll_mk1 (shut_bool Tryd.underlying4 _), (trodAll_cons_mk (Below.trod laidOut (by kernel_rfl) (of_decide_eq_true (by kernel_rfl)) k0 bel lt0) (trodAll_cons_mk (Below.trod laidOut (by kernel_rfl) (of_decide_eq_true (by kernel_rfl)) k1 bel lt1) trodAll_mk0)), rfl, bel.frame _, fun h => by cases h⟩
theorem over : Rows.gcSameRow.holds Tryd.pinned (OpenSpec.ofChange Rows.gcSameSpec) :=
  OpenClaim.holds_of_wide 5 Tryd.f5 rfl rfl rfl rfl rfl rfl rfl ⟨rfl, rfl, rfl, rfl, rfl⟩ rfl rfl rfl rfl rfl (by kernel_rfl) Tryd.func5 (by kernel_rfl)
    (of_decide_eq_true (by kernel_rfl)) (by unfold Func.isWrapper; rw [if_neg (by decide +kernel)]; exact ⟨rfl, rfl⟩)
    (fun os started H enc _ => lifted os started H enc)
theorem proved : Rows.GcSameCardSaid :=
  Claim7.holds_tied_plain_at .later [] [.data] true (true, "2bfd3325b18338b1a843f393c3323a8e76af83e533ae781857a8cea369f6755a") false
    over (fun _ h => by cases h) (by kernel_rfl) (fun _ h => by cases h) gcSame_row_tie rfl ⟨rfl, rfl⟩ (by kernel_rfl) rfl
    (fun f fn hf hfn => by
      obtain rfl : f = 5 := Option.some.inj ((show Tryd.prog.funcNamed "foundling/foundlinglaw06.GcSame" = some 5 by kernel_rfl).symm.trans hf) |>.symm
      obtain rfl : fn = Tryd.f5 := (Option.some.inj (Tryd.func5.symm.trans hfn)).symm
      exact ⟨by kernel_rfl, fun j t ht => by
        have hall : (Tryd.f5.params.all fun t => !Tryd.prog.wantsStandIn t) = true := by kernel_rfl
        rw [Array.all_eq_true_iff_forall_mem] at hall
        have := hall t (Array.mem_of_getElem? ht)
        show Tryd.prog.wantsStandIn t = false
        simpa using this⟩)
    (by kernel_rfl)
end Go.Proofs.YtffbhocgjpdjpaaDoor.gcSame
