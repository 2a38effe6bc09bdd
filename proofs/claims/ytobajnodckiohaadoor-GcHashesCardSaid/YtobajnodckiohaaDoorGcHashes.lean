/- Objects with numbers of their own: what Tag keeps of memory that was laid, in plain Lean. GcHashes: a collection changes no object's number of its own, nor the last one that was given: for every graph, roots and tags. -/
import Derived.Test.YtobajnodckiohaaDoorTag
import Derived.Test.YtobajnodckiohaaDoorOrdR
import Derived.Test.YtobajnodckiohaaDoorTie
import Derived.Test.YtobajnodckiohaaDoorCards
import Derived.ChangeOld
import Derived.StillTailTactics
import Derived.Deep.Cut
import Derived.Deep.CutRange
namespace Go.Proofs.YtobajnodckiohaaDoor
open Go.RowKit
set_option linter.unusedVariables false
/-- memory that was laid, where at most n objects have got numbers -/
structure Tagged (S : Nat → Bool) (M M1 : Nat → Nat) (n : Nat) : Prop where
  same : ∀ j, j ≠ 16777216 → (∀ a, S a = true → j ≠ a + 1) → M1 j = M j
  head : ∀ a, S a = true → UnOK (M1 a) (M1 (a + 1)) ∧ hK (M1 (a + 1)) = hK (M (a + 1)) ∧ hS (M1 (a + 1)) = hS (M (a + 1)) ∧ hH (M1 (a + 1)) ≤ (M1 16777216 : Int)
  uniq : ∀ a b, S a = true → S b = true → a ≠ b → hH (M1 (a + 1)) ≠ 0 → hH (M1 (b + 1)) ≠ hH (M1 (a + 1))
  last : M1 16777216 ≤ n
theorem tagged_start {free : Nat} {S : Nat → Bool} {M : Nat → Nat} {os : List RO} (h : Lays free S M os) (hf : free ≤ 200) : Tagged S M M 0 := by
  have hno : ∀ a, S a = true → hH (M (a + 1)) = 0 ∧ UnOK (M a) (M (a + 1)) := fun a ha => by
    obtain ⟨i, o, ho, rfl⟩ := h.only a ha
    exact ⟨(h.obj i o ho).stands.1.2.1, (h.obj i o ho).stands.1.1⟩
  exact ⟨fun _ _ _ => rfl, fun a ha => ⟨(hno a ha).2, rfl, rfl, by rw [(hno a ha).1]; omega⟩, fun a b ha _ _ h0 => absurd (hno a ha).1 h0, by rw [h.zero 16777216 (by omega)]; exact Nat.le_refl _⟩
section
variable {free n : Nat} {S : Nat → Bool} {M M1 : Nat → Nat} {os : List RO}
theorem lays_next (h : Lays free S M os) {a : Nat} (ha : S a = true) : S (a + 1) = false := by
  obtain ⟨i, o, ho, rfl⟩ := h.only a ha
  exact h.gap ho (by omega) (by omega)
theorem lays_two (h : Lays free S M os) {a : Nat} (ha : S a = true) : 2 ≤ a ∧ a + 2 ≤ free := by
  obtain ⟨i, o, ho, rfl⟩ := h.only a ha
  have := (h.obj i o ho).two
  have := (h.obj i o ho).fit
  omega
theorem tagged_step (h : Lays free S M os) (hf : free ≤ 200) (t : Tagged S M M1 n) (hsm : ∀ i, M1 i < 18446744073709551616) (hn : n < 1000) {a : Nat} (ha : S a = true) : Tagged S M (tagM M1 a) (n + 1) := by
  have h2 := lays_two h ha
  unfold tagM
  by_cases hz : hH (M1 (a + 1)) = 0
  · rw [if_pos hz]
    have hl := t.last
    obtain ⟨u, k1, k2, -⟩ := t.head a ha
    obtain ⟨p1, p2, p3, p4, p5, p6⟩ := tag_parts (n := M1 16777216 + 1) u (hsm (a + 1)) (by omega)
    generalize hL : M1 16777216 = L at *
    obtain ⟨M2, hM2⟩ : ∃ M2, M2 = put2 (lastM M1 (L + 1)) a (M1 a) (tagI (M1 (a + 1)) (L + 1)) := ⟨_, rfl⟩
    rw [← hM2]
    have q1 : M2 (a + 1) = tagI (M1 (a + 1)) (L + 1) := by rw [hM2]; unfold put2; rw [if_neg (by omega), if_pos rfl]
    have q2 : M2 16777216 = L + 1 := by rw [hM2, put2_last (by omega), lastM_last]
    have q3 : ∀ j, j ≠ 16777216 → j ≠ a + 1 → M2 j = M1 j := fun j hj hj2 => by
      rw [hM2]; unfold put2
      by_cases e : j = a
      · rw [if_pos e, e]
      · rw [if_neg e, if_neg hj2, lastM_cell hj]
    have hb : ∀ b, S b = true → b ≠ a → M2 (b + 1) = M1 (b + 1) ∧ M2 b = M1 b := fun b hb hne => by
      have := lays_two h hb
      refine ⟨q3 _ (by omega) (by omega), q3 _ (by omega) (fun e => ?_)⟩
      have := lays_next h ha
      rw [← e, hb] at this; cases this
    refine ⟨fun j hj hj2 => ?_, fun b hSb => ?_, fun b c hSb hSc hbc h0 => ?_, by rw [q2]; omega⟩
    · rw [q3 j hj (hj2 a ha)]; exact t.same j hj hj2
    · by_cases e : b = a
      · subst e
        rw [q1, q3 b (by omega) (by omega), q2]
        exact ⟨p6, by rw [p3, k1], by rw [p4, k2], by rw [p5]; omega⟩
      · obtain ⟨e1, e2⟩ := hb b hSb e
        obtain ⟨v1, v2, v3, v4⟩ := t.head b hSb
        rw [hL] at v4
        rw [e1, e2, q2]
        exact ⟨v1, v2, v3, by omega⟩
    · by_cases e : b = a
      · subst e
        have e2 := (hb c hSc (Ne.symm hbc)).1
        have v4 := (t.head c hSc).2.2.2
        rw [hL] at v4
        rw [q1, p5, e2]
        omega
      · have e1 := (hb b hSb e).1
        have v4 := (t.head b hSb).2.2.2
        rw [hL] at v4
        rw [e1] at h0 ⊢
        by_cases e' : c = a
        · subst e'
          rw [q1, p5]; omega
        · rw [(hb c hSc e').1]
          exact t.uniq b c hSb hSc hbc h0
  · rw [if_neg hz]
    exact ⟨t.same, t.head, t.uniq, by have := t.last; omega⟩
theorem tagged_cz (h : Lays free S M os) (hf : free ≤ 200) (t : Tagged S M M1 n) (hm : ∀ i, M i < 18446744073709551616) (hsm : ∀ i, M1 i < 18446744073709551616) {a : Nat} (ha : S a = true) : cz M1 a = cz M a := by
  obtain ⟨u, k1, k2, -⟩ := t.head a ha
  have u0 := (tagged_start h hf).head a ha
  have c1 := unOK_check u (by omega) (by have := hsm (a + 1); omega)
  have c0 := unOK_check u0.1 (by omega) (by have := hm (a + 1); omega)
  unfold cz cellsZ
  rw [if_pos c1, if_pos c0, k1, k2]
theorem ksum_same {M M1 : Nat → Nat} {S : Nat → Bool} (hc : ∀ a, S a = true → cz M1 a = cz M a) : ∀ m, ksum M1 S m = ksum M S m
  | 0 => rfl
  | m + 1 => by
    show ksum M1 S m + (if S m = true then _ else _) = ksum M S m + (if S m = true then _ else _)
    rw [ksum_same hc m]
    by_cases hS : S m = true
    · rw [if_pos hS, if_pos hS, hc m hS]
    · rw [if_neg hS, if_neg hS]
theorem tagged_coll (h : Lays free S M os) (hf : free ≤ 200) (t : Tagged S M M1 n) (hm : ∀ i, M i < 18446744073709551616) (hsm : ∀ i, M1 i < 18446744073709551616) (hn : n < 1000) : CollOK 200 S M1 := by
  have c := h.coll (N := 200) hf (by omega) hm
  refine ⟨fun a ha => ?_, hsm, by omega, by rw [ksum_same (fun a ha => tagged_cz h hf t hm hsm ha)]; exact c.fit, t.uniq, by have := t.last; omega⟩
  obtain ⟨o1, o2, -, -, o5, o6⟩ := c.obj a ha
  obtain ⟨u, k1, k2, k3⟩ := t.head a ha
  have h2 := lays_two h ha
  refine ⟨o1, by rw [tagged_cz h hf t hm hsm ha]; exact o2, u, k3, by rw [k2]; exact o5, fun hk => ?_⟩
  rw [k1] at hk
  refine ⟨by rw [k2]; exact (o6 hk).1, ?_⟩
  rw [t.same (a + 2) (by omega) (fun b hb e => ?_)]
  · exact (o6 hk).2
  · have := lays_next h ha
    rw [show a + 1 = b by omega, hb] at this; cases this
theorem tagged_good (h : Lays free S M os) (hf : free ≤ 200) (t : Tagged S M M1 n) : GoodH 200 S M1 := by
  intro a ha
  obtain ⟨⟨g1, g2, g3, -⟩, g5⟩ := h.good hf a ha
  obtain ⟨u, k1, k2, -⟩ := t.head a ha
  exact ⟨⟨g1, g2, g3, u⟩, fun hk => by rw [k2]; exact g5 (by rw [← k1]; exact hk)⟩
end
end Go.Proofs.YtobajnodckiohaaDoor
namespace Go.Proofs.YtobajnodckiohaaDoor.gcHashes
open Go.Joins Go.ChangeShapes Go.WideShapes Go.ChangeAt Go.RowKit Go.Deep
set_option linter.unusedVariables false
theorem u32Info : (Tryd.prog.info? 29).map (fun i => (i.zero, i.size, i.bytes)) = some (some (.int .u32 0), 1, 4) := by kernel_rfl
/-- the numbers of these objects -/
def hashV (M : Nat → Nat) (l : List Nat) : List Value := l.map fun x => .int .u32 (hH (M (x / 2 + 1)))
theorem hashV_len (M : Nat → Nat) (l : List Nat) : (hashV M l).length = l.length := by unfold hashV; rw [List.length_map]
theorem rest_in (x : Int) (n : Nat) (hn : 0 < n) : ∃ k : Nat, (x.tmod (n : Int) + (n : Int)) % (n : Int) = (k : Int) ∧ k < n := by
  have h1 := Int.emod_nonneg (x.tmod (n : Int) + (n : Int)) (show (n : Int) ≠ 0 by omega)
  have h2 := Int.emod_lt_of_pos (x.tmod (n : Int) + (n : Int)) (show (0 : Int) < n by omega)
  exact ⟨((x.tmod (n : Int) + (n : Int)) % (n : Int)).toNat, by omega, by omega⟩
theorem tmod_bd (x : Int) (n : Nat) (hn : 0 < n) : -(n : Int) < x.tmod (n : Int) ∧ x.tmod (n : Int) < (n : Int) := by
  have h := Int.tmod_lt_of_pos x (show (0 : Int) < n by omega)
  refine ⟨?_, h⟩
  have h2 := Int.tmod_lt_of_pos (-x) (show (0 : Int) < n by omega)
  rw [Int.neg_tmod] at h2
  omega
set_option maxRecDepth 100000 in
set_option maxHeartbeats 4000000 in
theorem walk (kv gv xv tv : Value) (ks ts : List Int) (ls xs : List Nat) (w : World) (hk : NumsAt w .i64 kv ks) (hg : WordsAt w gv ls) (hls : ∀ x, x ∈ ls → x < 18446744073709551616) (hx : WordsAt w xv xs) (hxs : ∀ x, x ∈ xs → x < 18446744073709551616) (ht : NumsAt w .i64 tv ts)
    (hT : TabAt 0 Lib.deBruijn64tab w) :
    Calls Tryd.prog 3 #[.agg #[kv, gv], xv, tv] w fun e w' => e = .returned (.bool true) ∧ Below w.heap.size w w' := by
  obtain ⟨iu, ui, uz0, uz1, uz2⟩ := info_parts u32Info
  have AW := Lib.hid (fun W (hW : Below w.heap.size w W) => awake6 W (tab_later hT hW))
  have LY := Lib.hid (fun W (hW : Below w.heap.size w W) => lay_far kv gv ks ls W (hk.later hW) (hg.later hW) hls)
  have HX := Lib.hid hx; have HXS := Lib.hid hxs; have HT := Lib.hid hT; have HTS := Lib.hid ht
  obtain ⟨ka, kcap, rfl, -⟩ := id hk
  obtain ⟨ga, gcap, rfl, -⟩ := id hg
  obtain ⟨ta, tcap, rfl, tl1, tl2, -⟩ := id ht
  clear hk hg hls hx hxs hT ht
  unfold maxLen at tl2
  go_enter Tryd.func3, Tryd.ntmps3
  go_wp2_with fail
  obtain ⟨w1, hw1⟩ : ∃ w1, w1 = w.alloc (.cells #[.slice ka ks.length kcap, .slice ga ls.length gcap] 25) := ⟨_, rfl⟩
  rw [← hw1]
  have hh1 : w1.heap[w.heap.size]? = some (.cells #[.slice ka ks.length kcap, .slice ga ls.length gcap] 25 (0, 0)) := by rw [hw1]; exact heap_alloc_new w _
  have hb1 : Below w.heap.size w w1 := by rw [hw1]; exact (Below.refl _ w).alloc (Nat.le_refl _) _
  clear hw1
  refine (AW.out w1 hb1).mono ?_
  rintro e w2 ⟨rfl, hg2⟩
  have hh2 := (hg2.block _ (Array.getElem?_eq_some_iff.1 hh1).1).trans hh1
  have hb2 := hb1.trans (hg2.mono hb1.size)
  have y0 := cellO hh2 0
  have y1 := cellO hh2 1
  simp at y0 y1
  have m2 : w.heap.size < w2.heap.size := (Array.getElem?_eq_some_iff.1 hh2).1
  have B2 := Lib.hid hb2
  clear hg2 hh2 hb2 hh1 hb1
  go_wp2_with fail
  refine (LY.out w2 B2.out).mono ?_
  rintro e w3 ⟨h, lv, os, free, S, M, E, rfl, hh3, hlay, hol, hro, hg3, hhE, hlt3⟩
  obtain ⟨la, lc, rfl⟩ : ∃ la lc, lv = .slice la os.length lc := by obtain ⟨la, lc, _, h1, -⟩ := hro; exact ⟨_, _, h1⟩
  have hfr := hlay.most
  have hM : ∀ i, M i < 18446744073709551616 := by obtain ⟨g, s, -, -, -, -, -, -, -, h, -⟩ := hh3; exact h
  have hhB : w2.heap.size + 2 ≤ w3.heap.size ∧ h < w3.heap.size := by
    obtain ⟨g, s, k1, k2, k3, k3', k4, k5, -⟩ := hh3
    have := (Array.getElem?_eq_some_iff.1 k5).1
    omega
  have HLAY := Lib.hid hlay
  have HMM := Lib.hid hM
  have HSM := Lib.hid (hlay.small (by omega))
  have B3 := Lib.hid (B2.out.trans (hg3.mono B2.out.size))
  have HLT3 := Lib.hid hlt3
  have HLTD := Lib.hid hh3.lt
  have HH3 := Lib.hid hh3; have HRO := Lib.hid hro
  clear hh3 hlay hro hg3 y0 y1 hM hlt3
  obtain ⟨w4, hw4⟩ : ∃ w4, w4 = w3.alloc (.cells #[.int .i64 200, .slice la os.length lc, .int .u32 0] 31) := ⟨_, rfl⟩
  have hh4 : w4.heap[w3.heap.size]? = some (.cells #[.int .i64 200, .slice la os.length lc, .int .u32 0] 31 (0, 0)) := by rw [hw4]; exact heap_alloc_new w3 _
  have hb4 : Below w3.heap.size w3 w4 := by rw [hw4]; exact (Below.refl _ w3).alloc (Nat.le_refl _) _
  have B4 := Lib.hid (B3.out.trans (hb4.mono B3.out.size))
  have H4 := Lib.hid (HH3.out.later hb4)
  have RO4 := Lib.hid (HRO.out.later hb4)
  have S34 := Stays.below (h := h) hb4
  have LTE := Lib.hid (S34.2 E HLT3.out).1
  have LTD := Lib.hid (S34.2 w3.heap.size HLTD.out).1
  have HD4 := Lib.hid hh4
  have hDl := (Array.getElem?_eq_some_iff.1 hh4).1
  clear S34 HRO HH3 HLT3 HLTD hh4 hb4
  obtain ⟨D, hD⟩ : ∃ D, w3.heap.size = D := ⟨_, rfl⟩
  obtain ⟨Bh, hBh⟩ : ∃ Bh, w2.heap.size + 2 = Bh := ⟨_, rfl⟩
  rw [hD] at HD4 LTD hDl hhB
  rw [hBh] at H4 hhB
  have hzz : w.heap.size < Bh := by omega
  go_wp2_with fail
  rw [← hw4]
  (try rw [hD])
  clear hw4 hD hBh
  generalize htn : ts.length = tn at *
  have HTN := Lib.hid htn; clear htn
  generalize hosn : os.length = n at *
  have HON := Lib.hid hosn; clear hosn
  go_loopg [10] 8 (fun gg s10 wr => ∃ (i : Nat) (M1 : Nat → Nat), gg = 8 - i ∧ i ≤ 8 ∧ s10 = .int .i64 (i : Int) ∧ HeapAt wr Bh h 200 free S M1 ∧ Tagged S M M1 i ∧ Stays h w4 wr ∧ Below Bh w4 wr)
  case atStart => exact ⟨0, M, rfl, by omega, rfl, H4.out, tagged_start HLAY.out (by omega), Stays.refl _ _, Below.refl _ _⟩
  case round =>
    obtain ⟨i, M1, hgi, hi, rfl, hh, htg, hst, hb⟩ := hrel
    have HGI := Lib.hid hgi; have HH := Lib.hid hh; have HTG := Lib.hid htg; have HST := Lib.hid hst; have HB := Lib.hid hb
    have hsr := hst.1
    have hDr := ((hst.2 D LTD.out).2 D (Nat.le_refl _) hDl).trans HD4.out
    have y1 := cellO hDr 1
    simp at y1
    have hDl2 := lt_of_cell y1
    have HDR := Lib.hid hDr
    have BWr := Lib.hid (B4.out.trans (hb.mono (Nat.le_of_lt hzz)))
    have ROr := Lib.hid (RO4.out.stays (w' := wr) fun q h1 h2 => (hst.2 E LTE.out).2 q h1 h2)
    have HMr := Lib.hid (show ∀ i, M1 i < 18446744073709551616 by obtain ⟨g, s, -, -, -, -, -, -, -, h, -⟩ := hh; exact h)
    have hBr : Bh ≤ wr.heap.size := by omega
    clear hgi hh htg hst hb hDr
    go_upto_region 7 with fail
    go_cut [54] from 41 to 53 (fun s54 wx => wx = wr ∧ ∃ t, s54 = .bool t ∧ (t = true → i < tn ∧ i < 8 ∧ 0 < n))
    case first =>
      by_cases h1 : i < tn
      · by_cases h2 : i < 8
        · have G := Lib.hid (show i < tn ∧ i < 8 from ⟨h1, h2⟩)
          go_wp2_with fail
          all_goals try (exfalso; go_light; omega)
          all_goals go_meet
          all_goals exact ⟨rfl, _, rfl, fun ht => ⟨G.out.1, G.out.2, by first | (simp at ht; omega) | (simp at ht)⟩⟩
        · go_wp2_with fail
          all_goals try (exfalso; go_light; omega)
          all_goals go_meet
          all_goals exact ⟨rfl, false, rfl, fun h => by cases h⟩
      · go_wp2_with fail
        all_goals try (exfalso; go_light; omega)
        all_goals go_meet
        all_goals exact ⟨rfl, false, rfl, fun h => by cases h⟩
    case rest =>
    obtain ⟨hwc, t, h54, htt⟩ := hcut
    obtain rfl := hwc.symm
    subst h54
    cases t
    rotate_left
    · obtain ⟨hi1, hi2, hi3⟩ := htt rfl
      clear htt
      obtain ⟨ta', tc', hte, -, -, -, htc⟩ := HTS.out.later BWr.out
      rw [HTN.out] at hte
      simp only [Value.slice.injEq] at hte
      obtain ⟨rfl, -, rfl⟩ := hte
      obtain ⟨tb, to_, rfl, htc, hwf⟩ := htc i (by rw [HTN.out]; exact hi1)
      have htbl := lt_of_cell htc
      obtain ⟨k, hk1, hk2⟩ := rest_in (ts[i]'(by rw [HTN.out]; exact hi1)) n hi3
      have htm := tmod_bd (ts[i]'(by rw [HTN.out]; exact hi1)) n hi3
      have hwfb := bounds_i64 hwf
      generalize (ts[i]'(by rw [HTN.out]; exact hi1)) = x at *
      obtain ⟨r, hr⟩ : ∃ r, x.tmod (n : Int) = r := ⟨_, rfl⟩
      rw [hr] at hk1 htm
      have hn0 : ¬ (n : Int) = 0 := by omega
      have hiI : (i : Int) < tn := by omega
      have hrn : 0 ≤ r + (n : Int) := by omega
      go_upto_region 9 with fail
      (refine wp_region_later (by kernel_rfl) (by kernel_rfl) ?_; (repeat (go_big_quiet_step ((fail)))); refine wpQuiet_nil ?_; intro w5 hw4; have hg := later_elim hw4; clear hw4)
      have G5 := Lib.hid hg
      have hs5 := hg.size
      have hkk : k < os.length := by rw [HON.out]; exact hk2
      obtain ⟨la', lc', hle, hl1, hl2, hget⟩ := (ROr.out.later hg).get
      rw [HON.out] at hle
      simp only [Value.slice.injEq] at hle
      obtain ⟨rfl, -, rfl⟩ := hle
      have hok := List.getElem?_eq_getElem hkk
      obtain ⟨rb, rq, wv, bv', rfl, hrb, c0, -⟩ := hget k os[k] hok
      have hAs := HSM.out os[k] (List.getElem_mem hkk)
      have hLO := HLAY.out.obj k os[k] hok
      have HSA := Lib.hid hLO.here
      have hA2 := hLO.two
      have hAf := hLO.fit
      have HUN := Lib.hid (HTG.out.head os[k].at_ hLO.here).1
      have htl := HTG.out.last
      have TG := Lib.hid (tag_any Bh h 200 free os[k].at_ S M1 w5 (HH.out.later hg) (Nat.le_trans hBr hs5) (by omega) (by omega) HSA.out HUN.out (by omega))
      generalize os[k].at_ = A at *
      rw [show (A : Int) * 2 = 2 * (A : Int) by omega] at TG
      have hDr5 := (hg.block D hDl2).trans HDR.out
      have y15 := cellO hDr5 1
      simp at y15
      have hDl5 := lt_of_cell y15
      have hkI : (k : Int) < n := by omega
      have hq2 : IntKind.u64.wrap (2 * (A : Int)) = 2 * (A : Int) := by simp [IntKind.wrap, IntKind.bits, IntKind.signed]; omega
      rw [hk1]
      clear hget hok hLO hg hDr5 htc y1 hr hk1
      go_wp2_with fail
      refine TG.out.mono ?_
      rintro e w6 ⟨xh, rfl, h6, g6, s6⟩
      have H6 := Lib.hid h6; have GB6 := Lib.hid (HB.out.trans ((G5.out.mono hBr).trans g6)); have S6 := Lib.hid (HST.out.trans ((Stays.below G5.out).trans s6))
      clear h6 g6 s6 c0 y15
      go_wp2_with fail
      go_roundg (8 - (i + 1))
      case measure => rw [HGI.out]; omega
      case rel => exact ⟨i + 1, _, rfl, by omega, by go_num, H6.out, tagged_step HLAY.out (by omega) HTG.out HMr.out (by omega) HSA.out, S6.out, GB6.out⟩
    · clear htt HGI HST HB
      have y0 := cellO HDR.out 0
      have y1 := cellO HDR.out 1
      have y2 := cellO HDR.out 2
      simp at y0 y1 y2
      have hol2 : os.length ≤ 20 := by rw [HON.out]; omega
      have RT := roots_any E _ xv os xs wr ROr.out (HX.out.later BWr.out) HXS.out HSM.out hol2
      have RTH := Lib.hid RT
      clear RT
      have HGD := Lib.hid (tagged_good HLAY.out (by omega) HTG.out)
      have HC := Lib.hid (tagged_coll HLAY.out (by omega) HTG.out HMM.out HMr.out (by omega))
      go_wp2_with fail
      refine RTH.out.mono ?_
      rintro e w5 ⟨av, bv, r1, rfl, hr1l, hr1, hoa1, hob1, hg5⟩
      have hr1b : r1.length ≤ 6 := by omega
      have B5 := Lib.hid (BWr.out.trans (hg5.mono BWr.out.size))
      have HH5 := Lib.hid (HH.out.later hg5)
      have WA := Lib.hid (words_of_owns hoa1)
      have R1 := Lib.hid hr1
      have hs5 := hg5.size
      obtain ⟨aa, ac, rfl⟩ := owns_len hoa1
      clear hr1l hob1 hr1 hg5 hoa1 RTH y0 y1 y2
      have OR1 := Lib.hid (order_words Bh h 200 free S M1 r1 _ w5 HH5.out HGD.out WA.out R1.out (by omega))
      go_wp2_with fail
      refine OR1.out.mono ?_
      rintro e w6 ⟨hcase, hg6⟩
      have B6 := Lib.hid (B5.out.trans (hg6.mono B5.out.size))
      rcases hcase with ⟨hbad, rfl⟩ | ⟨T, ov, l, hst1, rfl, how, hln, m, e1, e2, e3⟩
      · clear hg6 OR1 hbad
        go_wp2_with fail
        go_ret
        exact ⟨rfl, B6.out⟩
      · have HH6 := Lib.hid (HH5.out.later hg6)
        have WA6 := Lib.hid (WA.out.later hg6)
        have hs6 := hg6.size
        have STAY := Lib.hid hst1
        have HE1 := Lib.hid e1; have HE3 := Lib.hid e3
        have OT := Lib.hid (fun (l' : List Nat) (m' : Nat) h3 h4 => order_turned (N2 := 200) (l' := l') (m' := m') HGD.out HC.out hst1 (hst1.room HC.out) e1 e3 h3 h4)
        have hlen : l.length ≤ 200 := by rw [hln]; exact cnt_le T 200
        obtain ⟨oa, oc, rfl⟩ := owns_len how
        have HW := Lib.hid (words_of_owns how)
        have HLA := Lib.hid (hlast_any Bh h 200 free S M1 w6 HH6.out)
        have COL := Lib.hid (fun W (hW : Below w6.heap.size w6 W) => collect_any Bh h 200 free S M1 r1 _ W (HH6.out.later hW) (by have := hW.size; omega) HGD.out HC.out (WA6.out.later hW) R1.out (by omega) (tab_later HT.out (B6.out.trans (hW.mono B6.out.size))) (by omega) (by omega))
        have hall : ∀ y, y ∈ l → ∃ a, y = a * 2 ∧ T a = true := fun y hy => wait_stay HGD.out hst1 m (by rw [← e1]; exact hy)
        have HALL := Lib.hid hall
        clear hst1 how e1 e2 e3 hln hg6 OR1 hall
        generalize hll : l.length = q at *
        have HLL := Lib.hid hll; clear hll
        go_wp2_with fail
        refine HLA.out.mono ?_
        rintro e w7 ⟨rfl, hw7⟩
        obtain rfl := hw7.symm
        clear hw7
        generalize hLL : M1 16777216 = L at *
        have HL := Lib.hid hLL; clear hLL
        go_wp2_with fail
        generalize hb6 : w6.heap.size = b6 at *
        have HB6 := Lib.hid hb6; clear hb6
        go_loopg [19, 106] q (fun gg s19 s106 wr2 => ∃ j : Nat, gg = q - j ∧ j ≤ q ∧ s106 = .int .i64 (j : Int) ∧ wr2.ownsRow b6 29 1 s19 j (hashV M1 (l.take j)) ∧ Below b6 w6 wr2)
        case atStart => exact ⟨0, rfl, by omega, rfl, World.ownsRow_nil _ _ _ _, Below.refl _ _⟩
        case round =>
          obtain ⟨j, hgj, hj, rfl, hO, hB7⟩ := hrel
          have HGJ := Lib.hid hgj; have HO := Lib.hid hO; have HB7 := Lib.hid hB7
          have hs7 := hB7.size
          rw [HB6.out] at hs7
          clear hgj hO hB7
          by_cases hlt : j < q
          · have hjl : j < l.length := by rw [HLL.out]; exact hlt
            obtain ⟨oa', oc', hoe, hn1, hn2, hn3⟩ := (HW.out.later (by rw [HB6.out]; exact HB7.out)).get
            rw [HLL.out] at hoe
            simp only [Value.slice.injEq] at hoe
            obtain ⟨rfl, -, rfl⟩ := hoe
            obtain ⟨nb, no, rfl, hnl, hcn⟩ := hn3 j hjl
            have HT1 := Lib.hid (show hashV M1 (l.take (j + 1)) = hashV M1 (l.take j) ++ [.int .u32 (hH (M1 (l[j] / 2 + 1)))] by unfold hashV; rw [List.take_succ_eq_append_getElem hjl, List.map_append]; rfl)
            obtain ⟨A, hA, hTA⟩ := HALL.out l[j] (List.getElem_mem hjl)
            rw [hA] at hcn HT1
            rw [show A * 2 / 2 = A by omega] at HT1
            have hcn : wr.cell? ⟨nb, no + j, none⟩ = some (.int .u64 ((A : Int) * 2)) := by rw [hcn]; congr 2
            have hSA := STAY.out.sub hTA
            obtain ⟨⟨g1, g2, g3, g4⟩, -⟩ := HGD.out A hSA
            have HD := Lib.hid (fun W (hW : Below w6.heap.size w6 W) => hHead_yes Bh h 200 free A S M1 W (HH6.out.later hW) g1 g2 hSA g4)
            rw [HB6.out] at HD
            clear hn3 hA hTA hSA g3 g4
            have hhb := hH_bd (HMr.out (A + 1))
            have HVH := Lib.hid hhb; clear hhb
            generalize hH (M1 (A + 1)) = vh at *
            generalize hK (M1 (A + 1)) = vk at *
            generalize hS (M1 (A + 1)) = vs at *
            generalize hM (M1 (A + 1)) = vm at *
            have hhb := HVH.out
            go_wp2_with fail
            refine (HD.out _ HB7.out).mono ?_
            rintro e w8 ⟨rfl, hg8⟩
            have b9 : Below wr.heap.size wr (w8.alloc (.cells #[.int .u64 (M1 A : Int), .int .i64 vk, .int .i64 vs, .int .u32 vh, .bool vm] 52)) := hg8.alloc hg8.size _
            have q9 : (w8.alloc (.cells #[.int .u64 (M1 A : Int), .int .i64 vk, .int .i64 vs, .int .u32 vh, .bool vm] 52)).heap[w8.heap.size]? = some (.cells #[.int .u64 (M1 A : Int), .int .i64 vk, .int .i64 vs, .int .u32 vh, .bool vm] 52 (0, 0)) := heap_alloc_new w8 _
            have BN := Lib.hid b9; have QN := Lib.hid q9
            clear b9 q9 hg8 hcn hnl
            go_upto_region 23 with fail
            generalize w8.alloc (.cells #[.int .u64 (M1 A : Int), .int .i64 vk, .int .i64 vs, .int .u32 vh, .bool vm] 52) = w9 at *
            generalize w8.heap.size = bx at *
            have x3 := cellO QN.out 3
            simp at x3
            have hxl := lt_of_cell x3
            have hs9 := BN.out.size
            have B9 := Lib.hid (HB7.out.trans (BN.out.mono hs7))
            have O9 := Lib.hid (owns_later HO.out BN.out)
            have A1 := Lib.hid (show ∀ j u, ([.int .u32 vh] : List Value)[j]? = some u → (w9.alloc (.cells #[.int .u32 vh] 29)).cell? ((⟨w9.heap.size, 0, none⟩ : Addr).add j) = some u by
              intro j u hj
              match j, hj with
              | 0, hj => simp at hj; subst hj; simp [Addr.add])
            have A2 := Lib.hid (show ∀ u ∈ ([.int .u32 vh] : List Value), u.oneCell' = true by intro u hu; simp at hu; subst hu; rfl)
            have A3 := Lib.hid (show j + 1 ≤ maxLen by unfold maxLen; omega)
            have A4 := Lib.hid (show (j + 1) * 4 ≤ 140737488355328 by omega)
            have A5 := Lib.hid (show b6 ≤ (w9.alloc (.cells #[.int .u32 vh] 29)).heap.size by simp; omega)
            go_wp2_with (at_builtin; go_loud (refine wpList_append_own _ rfl _ _ 50 rfl b6 29 iu (.int .u32 0) 1 4 Tryd.underlying50 ui uz0 uz1 uz2 rfl (by decide) u19 j (hashV M1 (l.take j)) rfl (O9.out.alloc _) ⟨w9.heap.size, 0, none⟩ 1 1 [.int .u32 vh] rfl rfl A1.out A2.out A3.out A4.out A5.out ?_))
            intro v' w10 hown hgr _
            have HO10 := Lib.hid (show w10.ownsRow b6 29 1 v' (j + 1) (hashV M1 (l.take (j + 1))) by rw [HT1.out]; exact hown)
            have HB10 := Lib.hid (Below.grown (B9.out.alloc (by omega) (.cells #[.int .u32 vh] 29)) hgr (by simp; omega) (fun q hq => (O9.out.lt q hq).1))
            clear hown hgr x3
            go_wp2_with fail
            go_roundg (q - (j + 1))
            case measure => rw [HGJ.out]; omega
            case rel => exact ⟨j + 1, rfl, by omega, by go_num, HO10.out, HB10.out⟩
          · obtain rfl : j = q := by omega
            have hO := HO.out
            rw [List.take_of_length_le (by rw [HLL.out]; exact Nat.le_refl _)] at hO
            obtain ⟨ha, hc, rfl⟩ := owns_len hO
            have HC8 := Lib.hid (show ∀ i, i < j → ∃ g, ha = some ⟨g, 0, none⟩ ∧ b6 ≤ g ∧ g < wr.heap.size ∧ wr.cell? ⟨g, i, none⟩ = (hashV M1 l)[i]? from fun i hi => by
              obtain ⟨g, cp, he, hgB⟩ := owns_shape hO (by omega)
              simp only [Value.slice.injEq] at he
              obtain ⟨rfl, -, rfl⟩ := he
              have hc := hO.cellAt i (by omega)
              have hil : i < (hashV M1 l).length := by rw [hashV_len, HLL.out]; exact hi
              rw [List.getElem?_eq_getElem hil] at hc
              exact ⟨g, rfl, hgB, lt_of_cell hc, by rw [hc, List.getElem?_eq_getElem hil]⟩)
            have hb6B : Bh ≤ b6 ∧ h < b6 := by have := HB6.out; omega
            have B7 := Lib.hid (B6.out.trans ((show Below w6.heap.size w6 wr by rw [HB6.out]; exact HB7.out).mono B6.out.size))
            have CO := Lib.hid (COL.out wr HB7.out)
            clear hO COL HO HGJ HB7
            go_wp2_with fail
            refine CO.out.mono ?_
            rintro e w8 ⟨cv, cr, rfl, hbB, hbq, hcase⟩
            rcases hcase with ⟨hbad, -⟩ | ⟨rfl, T2, hst2, hout, hh8⟩
            · exact absurd hbad STAY.out.good
            · obtain rfl := hst2.unique STAY.out
              have HH8 := Lib.hid (show HeapAt w8 Bh h 200 (2 + ksum M1 T 200) (newS 200 M1 T) (newM 200 M1 T) from hh8)
              obtain ⟨ca, cc, rfl⟩ := owns_len hout
              have B8 := Lib.hid (B7.out.trans (hbB.mono (Nat.le_of_lt hzz)))
              have hs8 := hbB.size
              have HC9 := Lib.hid (show ∀ i, i < j → ∃ g, ha = some ⟨g, 0, none⟩ ∧ g < w8.heap.size ∧ w8.cell? ⟨g, i, none⟩ = (hashV M1 l)[i]? from fun i hi => by
                obtain ⟨g, h1, h2, h3, h4⟩ := HC8.out i hi
                exact ⟨g, h1, by omega, (World.cell?_of_block (a := ⟨g, i, none⟩) (hbq g (by omega) h3)).trans h4⟩)
              have GN := Lib.hid (new_goodH HC.out STAY.out)
              have NS := Lib.hid (new_stay HC.out STAY.out).good
              have OR2 := Lib.hid (order_words Bh h 200 (2 + ksum M1 T 200) (newS 200 M1 T) (newM 200 M1 T) (r1.map (turnM M1 T)) _ w8 hh8 GN.out (words_of_owns (l := r1.map (turnM M1 T)) hout) (fun x hx => by
                obtain ⟨y, hy, rfl⟩ := List.mem_map.1 hx
                exact turn_small HC.out STAY.out (R1.out y hy)) (by rw [List.length_map]; omega))
              clear hh8 hbB hbq hout hst2 CO HC8
              go_wp2_with fail
              refine OR2.out.mono ?_
              rintro e w9 ⟨hcase, hg9⟩
              rcases hcase with ⟨hbad, -⟩ | ⟨T3, nv, nl, hst3, rfl, hnw, hnlen, m3, e1, -, e3⟩
              · exact absurd hbad NS.out
              · obtain ⟨hnl, -⟩ := OT.out nl m3 e1 e3
                subst hnl
                obtain ⟨na, nc, rfl⟩ := owns_len hnw
                have HNW := Lib.hid (words_of_owns hnw)
                have HH9 := Lib.hid (HH8.out.later hg9)
                have HLA2 := hlast_any Bh h 200 (2 + ksum M1 T 200) (newS 200 M1 T) (newM 200 M1 T) w9 HH9.out
                rw [newM_last, HL.out] at HLA2
                have HLA3 := Lib.hid HLA2
                have B9 := Lib.hid (B8.out.trans (hg9.mono B8.out.size))
                have HC10 := Lib.hid (show ∀ i, i < j → ∃ g, ha = some ⟨g, 0, none⟩ ∧ g < w9.heap.size ∧ w9.cell? ⟨g, i, none⟩ = (hashV M1 l)[i]? from fun i hi => by
                  obtain ⟨g, h1, h2, h3⟩ := HC9.out i hi
                  exact ⟨g, h1, by have := hg9.size; omega, (hg9.cell (p := ⟨g, i, none⟩) h2).trans h3⟩)
                rw [List.length_map, HLL.out]
                clear hst3 hnw hnlen e1 e3 hg9 OR2 HC9 HLA2
                go_wp2_with fail
                refine HLA3.out.mono ?_
                rintro e wx ⟨rfl, hwx⟩
                obtain rfl := hwx.symm
                clear hwx
                go_wp2_with fail
                go_loopg [155] j (fun gg s155 wr => ∃ i : Nat, gg = j - i ∧ i ≤ j ∧ s155 = .int .i64 (i : Int) ∧ Below w9.heap.size w9 wr)
                case atStart => exact ⟨0, rfl, by omega, rfl, Below.refl _ _⟩
                case round =>
                  obtain ⟨i, hgi, hi, rfl, hb⟩ := hrel
                  have HGI := Lib.hid hgi; have HB := Lib.hid hb
                  have hs9 := hb.size
                  by_cases hlt : i < j
                  · have hil : i < l.length := by rw [HLL.out]; exact hlt
                    have hml : i < (l.map (turnM M1 T)).length := by rw [List.length_map]; exact hil
                    obtain ⟨na', nc', hne, hn1, hn2, hn3⟩ := (HNW.out.later hb).get
                    rw [List.length_map, HLL.out] at hne
                    simp only [Value.slice.injEq] at hne
                    obtain ⟨rfl, -, rfl⟩ := hne
                    obtain ⟨nb, no, rfl, hnl, hcn⟩ := hn3 i hml
                    obtain ⟨A, hA, hTA⟩ := HALL.out l[i] (List.getElem_mem hil)
                    have hSA := STAY.out.sub hTA
                    have hlA := HC.out.lt hSA
                    have htk : (l.map (turnM M1 T))[i]'hml = npl M1 T A * 2 := by
                      rw [List.getElem_map, hA]; exact turn_obj (by omega) hlA.2.1 hTA
                    rw [htk] at hcn
                    have hSP : newS 200 M1 T (npl M1 T A) = true := (newS_iff HC.out STAY.out).2 ⟨A, hTA, rfl⟩
                    obtain ⟨⟨g1, g2, g3, g4⟩, -⟩ := GN.out _ hSP
                    have HD := Lib.hid (fun W (hW : Below w9.heap.size w9 W) => hHead_yes Bh h 200 (2 + ksum M1 T 200) (npl M1 T A) (newS 200 M1 T) (newM 200 M1 T) W (HH9.out.later hW) g1 g2 hSP g4)
                    rw [new_head HC.out STAY.out hTA] at HD
                    obtain ⟨hgb, rfl, hgl, hch⟩ := HC10.out i hlt
                    have hchv : (hashV M1 l)[i]? = some (.int .u32 (hH (M1 (A + 1)))) := by
                      unfold hashV
                      rw [List.getElem?_map, List.getElem?_eq_getElem hil, hA]
                      show some (Value.int .u32 (hH (M1 (A * 2 / 2 + 1)))) = _
                      rw [show A * 2 / 2 = A by omega]
                    rw [hchv] at hch
                    generalize npl M1 T A = P at *
                    generalize newM 200 M1 T P = vc at *
                    generalize hH (M1 (A + 1)) = vh at *
                    generalize hK (M1 (A + 1)) = vk at *
                    generalize hS (M1 (A + 1)) = vs at *
                    generalize hM (M1 (A + 1)) = vm at *
                    have hcn : wr.cell? ⟨nb, no + i, none⟩ = some (.int .u64 ((P : Int) * 2)) := by rw [hcn]; congr 2
                    have HCH := Lib.hid hch
                    clear hn3 hA hTA hSA hlA htk hSP g3 g4 hchv hch hb hgi
                    go_wp2_with fail
                    refine (HD.out _ HB.out).mono ?_
                    rintro e w10 ⟨rfl, hg10⟩
                    have b11 : Below wr.heap.size wr (w10.alloc (.cells #[.int .u64 (vc : Int), .int .i64 vk, .int .i64 vs, .int .u32 vh, .bool vm] 52)) := hg10.alloc hg10.size _
                    have q11 : (w10.alloc (.cells #[.int .u64 (vc : Int), .int .i64 vk, .int .i64 vs, .int .u32 vh, .bool vm] 52)).heap[w10.heap.size]? = some (.cells #[.int .u64 (vc : Int), .int .i64 vk, .int .i64 vs, .int .u32 vh, .bool vm] 52 (0, 0)) := heap_alloc_new w10 _
                    have BN := Lib.hid b11; have QN := Lib.hid q11
                    clear b11 q11 hg10 hcn hnl
                    go_upto_region 33 with fail
                    generalize w10.alloc (.cells #[.int .u64 (vc : Int), .int .i64 vk, .int .i64 vs, .int .u32 vh, .bool vm] 52) = w11 at *
                    generalize w10.heap.size = bx at *
                    have x3 := cellO QN.out 3
                    simp at x3
                    have hxl := lt_of_cell x3
                    have B11 := Lib.hid (HB.out.trans (BN.out.mono hs9))
                    have hch := (B11.out.cell (p := ⟨hgb, i, none⟩) hgl).trans HCH.out
                    have hgl2 := lt_of_cell hch
                    have hiI : (i : Int) < j := by omega
                    have hi0 : (0 : Int) ≤ i := by omega
                    have hvv : (vh != vh) = false := by simp
                    (refine wp_region_later (by kernel_rfl) (by kernel_rfl) ?_; (repeat (go_big_quiet_step ((fail)))); refine wpQuiet_nil ?_; intro w12 hw4; have hg := later_elim hw4; clear hw4)
                    have HB12 := Lib.hid (B11.out.trans (hg.mono B11.out.size))
                    clear x3 hch
                    go_wp2_with fail
                    go_roundg (j - (i + 1))
                    case measure => rw [HGI.out]; omega
                    case rel => exact ⟨i + 1, rfl, by omega, by go_num, HB12.out⟩
                  · have HBZ := Lib.hid (B9.out.trans (hb.mono B9.out.size))
                    clear hb
                    go_wp2_with fail
                    go_ret
                    exact ⟨rfl, HBZ.out⟩
theorem own : ownKnob Tryd.prog.godebug = none := by kernel_rfl
theorem laidOut : laidOutB Tryd.prog = true := by kernel_rfl
set_option maxRecDepth 100000 in
theorem lifted (os : Os) (started : os.Started) (H : Type) (enc : TypeId × Value → H) :
    ReturnsInHanded {} Tryd.checked os 3 .any (fun w args => (Rows.gcHashesSpec.pre enc Tryd.prog Tryd.f3 Rows.gcHashesRow.domain false w args ∧ laidMet Tryd.prog Rows.gcHashesRow.laid w) ∧ sizedMet enc Tryd.prog Tryd.f3 (OpenSpec.ofChange Rows.gcHashesSpec) false w args)
      (Rows.gcHashesSpec.post enc Tryd.prog Tryd.f3 false true false false) := by
  refine returnsInHanded_of_change_and (C := Tryd.checked) (X := fun w _ => laidMet Tryd.prog Rows.gcHashesRow.laid w) (fun _ _ _ hh h => h.of_heap hh) own started (by kernel_rfl) Tryd.func3
    (ChangeSpec.witness_at (enc := enc) (C := Tryd.checked) (os := os) (X := fun w _ => laidMet Tryd.prog Rows.gcHashesRow.laid w) false (laidWorld os) #[.agg #[.slice none 0 0, .slice none 0 0], .slice none 0 0, .slice none 0 0] 8 rfl (by kernel_rfl) (by kernel_rfl) (by kernel_rfl) (by kernel_rfl) (by kernel_rfl) (laid_met os _)) ?_
  intro W base args ds gs before hval0 hW hcnd hsz0 hL _
  have hval : ∀ (j : Nat) t v, Tryd.f3.params[j]? = some t → args[j]? = some v → Value.okWide Tryd.prog W .any base t v := hval0
  have hW' := hW
  obtain ⟨p, q, hA0, hV, rfl, hfz, hnd⟩ := hW
  have hA : DataW.TrodAll enc Tryd.prog W 0 (fun _ => true) true Tryd.f3.params.toList args.toList ds p := hA0
  rw [Tryd.params3] at hA hval
  obtain ⟨v0, vs0, d0, ds0, p0, q0, hargs, rfl, rfl, h0, r0⟩ := trodAll_cons hA
  obtain ⟨v1, vs1, d1, ds1, p1, q1, rfl, rfl, rfl, h1, r1⟩ := trodAll_cons r0
  obtain ⟨v2, vs2, d2, ds2, p2, q2, rfl, rfl, rfl, h2, r2⟩ := trodAll_cons r1
  obtain ⟨rfl, rfl, rfl⟩ := trodAll_nil r2
  obtain rfl : args = #[v0, v1, v2] := by cases args; simp_all
  obtain ⟨rfl, rfl⟩ := trodVars_none hV
  have k0 := h0
  have lt0 : ∀ x ∈ p0, x.block < W.heap.size := by obtain ⟨m, hm⟩ := k0; exact DataW.trod_lt m _ _ _ hm
  have k1 := h1
  have lt1 : ∀ x ∈ p1, x.block < W.heap.size := by obtain ⟨m, hm⟩ := k1; exact DataW.trod_lt m _ _ _ hm
  have k2 := h2
  have lt2 : ∀ x ∈ p2, x.block < W.heap.size := by obtain ⟨m, hm⟩ := k2; exact DataW.trod_lt m _ _ _ hm
  obtain ⟨kv, gv, ks, ls, rfl, hk, hg, hls⟩ := open_graph (hval 0 25 v0 rfl rfl) h0
  obtain ⟨l1, hl1⟩ := open_nums Tryd.underlying23 Tryd.underlying37 (by kernel_rfl) (hval 1 23 v1 rfl rfl) h1
  obtain ⟨l2, hl2⟩ := open_nums Tryd.underlying22 Tryd.underlying3 (by kernel_rfl) (hval 2 22 v2 rfl rfl) h2
  obtain ⟨xs, hx, hxs⟩ := words_of_nums hl1
  have hT := tab_of_laid hL
  clear hA0 hval0
  refine (walk kv gv v1 v2 ks l2 ls xs W hk hg hls hx hxs hl2 hT).mono fun e W' ⟨he, bel⟩ => ?_
  subst he
  exact ⟨_, rfl, _, _, _, [], _, [], hW', trodAll_mk1 (shut_bool Tryd.underlying4 _), (trodAll_cons_mk (Below.trod laidOut (by kernel_rfl) (of_decide_eq_true (by kernel_rfl)) k0 bel lt0) (trodAll_cons_mk (Below.trod laidOut (by kernel_rfl) (of_decide_eq_true (by kernel_rfl)) k1 bel lt1) (trodAll_cons_mk (Below.trod laidOut (by kernel_rfl) (of_decide_eq_true (by kernel_rfl)) k2 bel lt2) trodAll_mk0))), rfl, bel.frame _, fun h => by cases h⟩
theorem over : Rows.gcHashesRow.holds Tryd.pinned (OpenSpec.ofChange Rows.gcHashesSpec) :=
  OpenClaim.holds_of_wide 3 Tryd.f3 rfl rfl rfl rfl rfl rfl rfl ⟨rfl, rfl, rfl, rfl, rfl⟩ rfl rfl rfl rfl rfl (by kernel_rfl) Tryd.func3 (by kernel_rfl)
    (of_decide_eq_true (by kernel_rfl)) (by unfold Func.isWrapper; rw [if_neg (by decide +kernel)]; exact ⟨rfl, rfl⟩)
    (fun os started H enc _ => lifted os started H enc)
theorem proved : Rows.GcHashesCardSaid :=
  Claim7.holds_tied_plain_at .later [] [.data] true (true, "e0c9c778920b40ea8738c8b4f4b0987c1b47d1af0614992e1ee2367fb4c5a9b2") false
    over (fun _ h => by cases h) (by kernel_rfl) (fun _ h => by cases h) gcHashes_row_tie rfl ⟨rfl, rfl⟩ (by kernel_rfl) rfl
    (fun f fn hf hfn => by
      obtain rfl : f = 3 := Option.some.inj ((show Tryd.prog.funcNamed "foundling/foundlinglaw06.GcHashes" = some 3 by kernel_rfl).symm.trans hf) |>.symm
      obtain rfl : fn = Tryd.f3 := (Option.some.inj (Tryd.func3.symm.trans hfn)).symm
      exact ⟨by kernel_rfl, fun j t ht => by
        have hall : (Tryd.f3.params.all fun t => !Tryd.prog.wantsStandIn t) = true := by kernel_rfl
        rw [Array.all_eq_true_iff_forall_mem] at hall
        have := hall t (Array.mem_of_getElem? ht)
        show Tryd.prog.wantsStandIn t = false
        simpa using this⟩)
    (by kernel_rfl)
end Go.Proofs.YtobajnodckiohaaDoor.gcHashes
