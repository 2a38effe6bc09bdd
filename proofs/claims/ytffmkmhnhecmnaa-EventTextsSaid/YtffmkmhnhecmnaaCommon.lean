/- How many events are the same at the beginning. -/
import Derived.Test.YtffmkmhnhecmnaaEvOwn
namespace Go.Proofs.Ytffmkmhnhecmnaa
open Go.RowKit
def smallEvs (l : List Ev) : Prop := ∀ e ∈ l, e.bytes.length ≤ 200 ∧ e.name.length ≤ 200

set_option maxRecDepth 100000 in
set_option maxHeartbeats 1600000 in
theorem common_any (v u : Value) (l m : List Ev) (w : World) (hv : EvsAt w v l) (hu : EvsAt w u m) (sl : smallEvs l) (sm : smallEvs m) :
    Calls Try.prog 10 #[v, u] w fun e w' => e = .returned (.int .i64 (commonL l m)) ∧ Below w.heap.size w w' := by
  obtain ⟨a, cap, rfl, h1, h2, h3, h4⟩ := hv.get
  obtain ⟨a', cap', rfl, g1, g2, g3, g4⟩ := hu.get
  have H4 := Lib.hid h4; have G4 := Lib.hid g4; clear hv hu h3 h4 g3 g4
  have SL := Lib.hid sl; have SM := Lib.hid sm; clear sl sm
  unfold maxLen at h2 g2
  go_enter Try.func10, Try.ntmps10
  go_wp2_with fail
  go_loopg [5] l.length (fun g i wr => ∃ k : Nat, g = l.length - k ∧ i = .int .i64 k ∧ k ≤ l.length ∧ k ≤ m.length ∧ Below w.heap.size w wr ∧ (∀ i, i < k → ∃ a b, l[i]? = some a ∧ m[i]? = some b ∧ sameEv a b = true))
  case atStart => exact ⟨0, rfl, rfl, by omega, by omega, Below.refl _ _, fun i hi => absurd hi (by omega)⟩
  case round =>
    obtain ⟨k, hgk, rfl, hk1, hk2, hg, hs⟩ := hrel
    have HG := Lib.hid hg; have HS := Lib.hid hs; have HK := Lib.hid hgk; clear hg hs hgk
    by_cases c1 : k < l.length
    · by_cases c2 : k < m.length
      · obtain ⟨b, o, bv, nm, hab, hbl, c0, c1', c2', hn, hbv⟩ := H4.out k l[k] (List.getElem?_eq_getElem c1)
        obtain ⟨b', o', bv', nm', hab', hbl', e0, e1', e2', hn', hbv'⟩ := G4.out k m[k] (List.getElem?_eq_getElem c2)
        have L1 := Lib.hid (List.getElem?_eq_getElem c1)
        have M1 := Lib.hid (List.getElem?_eq_getElem c2)
        have s1 := SL.out _ (List.getElem_mem c1)
        have s2 := SM.out _ (List.getElem_mem c2)
        subst hab hab'
        have d0 := (HG.out.cell (p := ⟨b, o + k * 3, none⟩) hbl).trans c0
        have d1 := (HG.out.cell (p := ⟨b, o + k * 3 + 1, none⟩) hbl).trans c1'
        have d2 := (HG.out.cell (p := ⟨b, o + k * 3 + 2, none⟩) hbl).trans c2'
        have f0 := (HG.out.cell (p := ⟨b', o' + k * 3, none⟩) hbl').trans e0
        have f1 := (HG.out.cell (p := ⟨b', o' + k * 3 + 1, none⟩) hbl').trans e1'
        have f2 := (HG.out.cell (p := ⟨b', o' + k * 3 + 2, none⟩) hbl').trans e2'
        have hwl := HG.out.size
        have hbr : b < wr.heap.size := by omega
        have hbr' : b' < wr.heap.size := by omega
        clear c0 c1' c2' e0 e1' e2'
        have HBV := Lib.hid hbv; have HBV' := Lib.hid hbv'
        generalize l[k] = e at *
        generalize m[k] = f at *
        obtain ⟨ek, eb, en⟩ := e
        obtain ⟨fk, fb, fn⟩ := f
        dsimp only at *
        subst hn hn'
        obtain ⟨ab, cb, rfl, -, -, -, -⟩ := hbv
        obtain ⟨ab', cb', rfl, -, -, -, -⟩ := hbv'
        rw [len_ba] at s1 s2
        have S1 := Lib.hid s1; have S2 := Lib.hid s2; clear s1 s2
        by_cases q : ek = fk
        · subst q
          have X1 : ∀ W, Below wr.heap.size wr W → Calls Try.prog 21 #[.agg #[.int .i64 ek, .slice ab eb.length cb, .string nm]] W fun e w' => e = .returned (.string ⟨(lineL ⟨ek, eb, nm.data.toList⟩).toArray⟩) ∧ Below W.heap.size W w' := fun W hW => line_any ek _ nm eb W (HBV.out.later (HG.out.trans (hW.mono hwl))) (by have := S1.out.1; omega) (by have := S1.out.2; omega)
          have X2 : ∀ W, Below wr.heap.size wr W → Calls Try.prog 21 #[.agg #[.int .i64 ek, .slice ab' fb.length cb', .string nm']] W fun e w' => e = .returned (.string ⟨(lineL ⟨ek, fb, nm'.data.toList⟩).toArray⟩) ∧ Below W.heap.size W w' := fun W hW => line_any ek _ nm' fb W (HBV'.out.later (HG.out.trans (hW.mono hwl))) (by have := S2.out.1; omega) (by have := S2.out.2; omega)
          have X1 := Lib.hid X1; have X2 := Lib.hid X2
          by_cases q2 : lineL ⟨ek, eb, nm.data.toList⟩ = lineL ⟨ek, fb, nm'.data.toList⟩
          · have z : ((lineL ⟨ek, eb, nm.data.toList⟩) == (lineL ⟨ek, fb, nm'.data.toList⟩)) = true := by simp [q2]
            have Q2 := Lib.hid q2; clear q2
            go_wp2_with fail
            (refine wp_region_later (by kernel_rfl) (by kernel_rfl) ?_; (repeat (go_big_quiet_step (((go_at_call 21; first | (with_reducible exact calls_later_if X1.out) | (with_reducible exact calls_later_if X2.out)))))); refine wpQuiet_nil ?_; intro w4 hw4; have hg := later_elim hw4; clear hw4)
            have HB4 := Lib.hid (HG.out.trans (hg.mono hwl)); clear hg
            go_wp2_with fail
            go_roundg (l.length - (k + 1))
            case measure => rw [HK.out]; omega
            case rel => exact ⟨k + 1, rfl, by go_num, by omega, by omega, HB4.out, fun i hi => by
              by_cases hik : i < k
              · exact HS.out i hik
              · obtain rfl : i = k := by omega
                exact ⟨_, _, L1.out, M1.out, by simp [sameEv, Q2.out]⟩⟩
          · have z : ((lineL ⟨ek, eb, nm.data.toList⟩) == (lineL ⟨ek, fb, nm'.data.toList⟩)) = false := by simp [q2]
            have F := Lib.hid (commonL_drop l m k HS.out (fun a b ha hb => by rw [L1.out] at ha; rw [M1.out] at hb; injection ha with ha; injection hb with hb; subst ha hb; simp [sameEv, q2]))
            clear q2
            go_wp2_with fail
            (refine wp_region_later (by kernel_rfl) (by kernel_rfl) ?_; (repeat (go_big_quiet_step (((go_at_call 21; first | (with_reducible exact calls_later_if X1.out) | (with_reducible exact calls_later_if X2.out)))))); refine wpQuiet_nil ?_; intro w4 hw4; have hg := later_elim hw4; clear hw4)
            have HB4 := Lib.hid (HG.out.trans (hg.mono hwl)); clear hg
            go_wp2_with fail
            go_ret
            exact ⟨by rw [F.out]; try rfl, HB4.out⟩
        · have F := Lib.hid (commonL_drop l m k HS.out (fun a b ha hb => by rw [L1.out] at ha; rw [M1.out] at hb; injection ha with ha; injection hb with hb; subst ha hb; simp [sameEv, q]))
          have q0 : (ek == fk) = false := by simpa using q
          clear q
          go_wp2_with fail
          (refine wp_region_later (by kernel_rfl) (by kernel_rfl) ?_; (repeat (go_big_quiet_step ((fail)))); refine wpQuiet_nil ?_; intro w4 hw4; have hg := later_elim hw4; clear hw4)
          have HB4 := Lib.hid (HG.out.trans (hg.mono hwl)); clear hg
          go_wp2_with fail
          go_ret
          exact ⟨by rw [F.out]; try rfl, HB4.out⟩
      · have F := Lib.hid (commonL_drop l m k HS.out (fun a b ha hb => absurd (List.getElem?_eq_some_iff.1 hb).1 (by omega)))
        go_wp2_with fail
        (refine wp_region_later (by kernel_rfl) (by kernel_rfl) ?_; (repeat (go_big_quiet_step ((fail)))); refine wpQuiet_nil ?_; intro w4 hw4; have hg := later_elim hw4; clear hw4)
        go_wp2_with fail
        go_ret
        exact ⟨by rw [F.out]; try rfl, HG.out.trans (hg.mono HG.out.size)⟩
    · have F := Lib.hid (commonL_drop l m k HS.out (fun a b ha hb => absurd (List.getElem?_eq_some_iff.1 ha).1 (by omega)))
      go_wp2_with fail
      (refine wp_region_later (by kernel_rfl) (by kernel_rfl) ?_; (repeat (go_big_quiet_step ((fail)))); refine wpQuiet_nil ?_; intro w4 hw4; have hg := later_elim hw4; clear hw4)
      go_wp2_with fail
      go_ret
      exact ⟨by rw [F.out]; try rfl, HG.out.trans (hg.mono HG.out.size)⟩

set_option maxRecDepth 100000 in
set_option maxHeartbeats 1600000 in
theorem rcommon_any (v u : Value) (l m : List Ev) (w : World) (hv : EvsAt w v l) (hu : EvsAt w u m) (sl : smallEvs l) (sm : smallEvs m) :
    Calls Try.prog 8 #[v, u] w fun e w' => e = .returned (.int .i64 (commonL l m)) ∧ Below w.heap.size w w' := by
  obtain ⟨a, cap, rfl, h1, h2, h3, h4⟩ := hv.get
  obtain ⟨a', cap', rfl, g1, g2, g3, g4⟩ := hu.get
  have H4 := Lib.hid h4; have G4 := Lib.hid g4; clear hv hu h3 h4 g3 g4
  have SL := Lib.hid sl; have SM := Lib.hid sm; clear sl sm
  unfold maxLen at h2 g2
  go_enter Try.func8, Try.ntmps8
  go_wp2_with fail
  go_loopg [5] l.length (fun g i wr => ∃ k : Nat, g = l.length - k ∧ i = .int .i64 k ∧ k ≤ l.length ∧ k ≤ m.length ∧ Below w.heap.size w wr ∧ (∀ i, i < k → ∃ a b, l[i]? = some a ∧ m[i]? = some b ∧ sameEv a b = true))
  case atStart => exact ⟨0, rfl, rfl, by omega, by omega, Below.refl _ _, fun i hi => absurd hi (by omega)⟩
  case round =>
    obtain ⟨k, hgk, rfl, hk1, hk2, hg, hs⟩ := hrel
    have HG := Lib.hid hg; have HS := Lib.hid hs; have HK := Lib.hid hgk; clear hg hs hgk
    by_cases c1 : k < l.length
    · by_cases c2 : k < m.length
      · obtain ⟨b, o, bv, nm, hab, hbl, c0, c1', c2', hn, hbv⟩ := H4.out k l[k] (List.getElem?_eq_getElem c1)
        obtain ⟨b', o', bv', nm', hab', hbl', e0, e1', e2', hn', hbv'⟩ := G4.out k m[k] (List.getElem?_eq_getElem c2)
        have L1 := Lib.hid (List.getElem?_eq_getElem c1)
        have M1 := Lib.hid (List.getElem?_eq_getElem c2)
        have s1 := SL.out _ (List.getElem_mem c1)
        have s2 := SM.out _ (List.getElem_mem c2)
        subst hab hab'
        have d0 := (HG.out.cell (p := ⟨b, o + k * 3, none⟩) hbl).trans c0
        have d1 := (HG.out.cell (p := ⟨b, o + k * 3 + 1, none⟩) hbl).trans c1'
        have d2 := (HG.out.cell (p := ⟨b, o + k * 3 + 2, none⟩) hbl).trans c2'
        have f0 := (HG.out.cell (p := ⟨b', o' + k * 3, none⟩) hbl').trans e0
        have f1 := (HG.out.cell (p := ⟨b', o' + k * 3 + 1, none⟩) hbl').trans e1'
        have f2 := (HG.out.cell (p := ⟨b', o' + k * 3 + 2, none⟩) hbl').trans e2'
        have hwl := HG.out.size
        have hbr : b < wr.heap.size := by omega
        have hbr' : b' < wr.heap.size := by omega
        clear c0 c1' c2' e0 e1' e2'
        have HBV := Lib.hid hbv; have HBV' := Lib.hid hbv'
        generalize l[k] = e at *
        generalize m[k] = f at *
        obtain ⟨ek, eb, en⟩ := e
        obtain ⟨fk, fb, fn⟩ := f
        dsimp only at *
        subst hn hn'
        obtain ⟨ab, cb, rfl, -, -, -, -⟩ := hbv
        obtain ⟨ab', cb', rfl, -, -, -, -⟩ := hbv'
        rw [len_ba] at s1 s2
        have S1 := Lib.hid s1; have S2 := Lib.hid s2; clear s1 s2
        by_cases q : ek = fk
        · subst q
          have X1 : ∀ W, Below wr.heap.size wr W → Calls Try.prog 20 #[.agg #[.int .i64 ek, .slice ab eb.length cb, .string nm]] W fun e w' => e = .returned (.string ⟨(lineL ⟨ek, eb, nm.data.toList⟩).toArray⟩) ∧ Below W.heap.size W w' := fun W hW => rline_any ek _ nm eb W (HBV.out.later (HG.out.trans (hW.mono hwl))) (by have := S1.out.1; omega) (by have := S1.out.2; omega)
          have X2 : ∀ W, Below wr.heap.size wr W → Calls Try.prog 20 #[.agg #[.int .i64 ek, .slice ab' fb.length cb', .string nm']] W fun e w' => e = .returned (.string ⟨(lineL ⟨ek, fb, nm'.data.toList⟩).toArray⟩) ∧ Below W.heap.size W w' := fun W hW => rline_any ek _ nm' fb W (HBV'.out.later (HG.out.trans (hW.mono hwl))) (by have := S2.out.1; omega) (by have := S2.out.2; omega)
          have X1 := Lib.hid X1; have X2 := Lib.hid X2
          by_cases q2 : lineL ⟨ek, eb, nm.data.toList⟩ = lineL ⟨ek, fb, nm'.data.toList⟩
          · have z : ((lineL ⟨ek, eb, nm.data.toList⟩) == (lineL ⟨ek, fb, nm'.data.toList⟩)) = true := by simp [q2]
            have Q2 := Lib.hid q2; clear q2
            go_wp2_with fail
            (refine wp_region_later (by kernel_rfl) (by kernel_rfl) ?_; (repeat (go_big_quiet_step (((go_at_call 20; first | (with_reducible exact calls_later_if X1.out) | (with_reducible exact calls_later_if X2.out)))))); refine wpQuiet_nil ?_; intro w4 hw4; have hg := later_elim hw4; clear hw4)
            have HB4 := Lib.hid (HG.out.trans (hg.mono hwl)); clear hg
            go_wp2_with fail
            go_roundg (l.length - (k + 1))
            case measure => rw [HK.out]; omega
            case rel => exact ⟨k + 1, rfl, by go_num, by omega, by omega, HB4.out, fun i hi => by
              by_cases hik : i < k
              · exact HS.out i hik
              · obtain rfl : i = k := by omega
                exact ⟨_, _, L1.out, M1.out, by simp [sameEv, Q2.out]⟩⟩
          · have z : ((lineL ⟨ek, eb, nm.data.toList⟩) == (lineL ⟨ek, fb, nm'.data.toList⟩)) = false := by simp [q2]
            have F := Lib.hid (commonL_drop l m k HS.out (fun a b ha hb => by rw [L1.out] at ha; rw [M1.out] at hb; injection ha with ha; injection hb with hb; subst ha hb; simp [sameEv, q2]))
            clear q2
            go_wp2_with fail
            (refine wp_region_later (by kernel_rfl) (by kernel_rfl) ?_; (repeat (go_big_quiet_step (((go_at_call 20; first | (with_reducible exact calls_later_if X1.out) | (with_reducible exact calls_later_if X2.out)))))); refine wpQuiet_nil ?_; intro w4 hw4; have hg := later_elim hw4; clear hw4)
            have HB4 := Lib.hid (HG.out.trans (hg.mono hwl)); clear hg
            go_wp2_with fail
            go_ret
            exact ⟨by rw [F.out]; try rfl, HB4.out⟩
        · have F := Lib.hid (commonL_drop l m k HS.out (fun a b ha hb => by rw [L1.out] at ha; rw [M1.out] at hb; injection ha with ha; injection hb with hb; subst ha hb; simp [sameEv, q]))
          have q0 : (ek == fk) = false := by simpa using q
          clear q
          go_wp2_with fail
          (refine wp_region_later (by kernel_rfl) (by kernel_rfl) ?_; (repeat (go_big_quiet_step ((fail)))); refine wpQuiet_nil ?_; intro w4 hw4; have hg := later_elim hw4; clear hw4)
          have HB4 := Lib.hid (HG.out.trans (hg.mono hwl)); clear hg
          go_wp2_with fail
          go_ret
          exact ⟨by rw [F.out]; try rfl, HB4.out⟩
      · have F := Lib.hid (commonL_drop l m k HS.out (fun a b ha hb => absurd (List.getElem?_eq_some_iff.1 hb).1 (by omega)))
        go_wp2_with fail
        (refine wp_region_later (by kernel_rfl) (by kernel_rfl) ?_; (repeat (go_big_quiet_step ((fail)))); refine wpQuiet_nil ?_; intro w4 hw4; have hg := later_elim hw4; clear hw4)
        go_wp2_with fail
        go_ret
        exact ⟨by rw [F.out]; try rfl, HG.out.trans (hg.mono HG.out.size)⟩
    · have F := Lib.hid (commonL_drop l m k HS.out (fun a b ha hb => absurd (List.getElem?_eq_some_iff.1 ha).1 (by omega)))
      go_wp2_with fail
      (refine wp_region_later (by kernel_rfl) (by kernel_rfl) ?_; (repeat (go_big_quiet_step ((fail)))); refine wpQuiet_nil ?_; intro w4 hw4; have hg := later_elim hw4; clear hw4)
      go_wp2_with fail
      go_ret
      exact ⟨by rw [F.out]; try rfl, HG.out.trans (hg.mono HG.out.size)⟩

end Go.Proofs.Ytffmkmhnhecmnaa
