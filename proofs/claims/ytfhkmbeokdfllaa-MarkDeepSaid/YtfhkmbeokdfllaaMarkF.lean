/- Going through objects: how many steps from one to another. -/
import Derived.Test.YtfhkmbeokdfllaaMarkE
import Derived.BigQuiet
namespace Go.Proofs.Ytfhkmbeokdfllaa
open Go.RowKit
set_option linter.unusedVariables false
theorem OwnsW.mono {w : World} {B C : Nat} {v : Value} {l : List Nat} (h : OwnsW w B v l) (hc : C ≤ B) : OwnsW w C v l := by
  obtain ⟨h0, h | ⟨g, cap, cur, h1, h2, h3⟩⟩ := h
  · exact ⟨h0, Or.inl h⟩
  · exact ⟨h0, Or.inr ⟨g, cap, cur, h1, by omega, h3⟩⟩
theorem LookAt.row {w : World} {B p h N k : Nat} {T : Nat → Bool} {l : List Nat} (H : LookAt w B p h N T l k) (hl : l ≠ []) :
    ∃ g cap, w.cell? ⟨p, 2, none⟩ = some (.slice (some ⟨g, 0, none⟩) l.length cap) ∧ l.length ≤ cap ∧ cap ≤ maxLen ∧ (∃ c, w.heap[g]? = some (.cells c 29 (0, 0))) ∧ (∀ (i x : Nat), l[i]? = some x → w.cell? ⟨g, i, none⟩ = some (.int .u64 (x : Int))) := by
  obtain ⟨b, v, h1, h2, h3, h4, h5, h6⟩ := H
  have z2 := cellO h3 2
  simp at z2
  rcases h6 with ⟨-, hn⟩ | ⟨g, cap, cur, rfl, hg, hcur, c1, c2, c3, c4⟩
  · exact absurd (List.eq_nil_of_length_eq_zero hn) hl
  · refine ⟨g, cap, z2, c1, c2, ⟨cur, hcur⟩, fun i x hx => ?_⟩
    rw [Nat.mul_one] at c4
    obtain ⟨hi, hx2⟩ := List.getElem?_eq_some_iff.1 hx
    have e1 : (cur.toList.take l.length)[i]? = (wordCells l)[i]? := by rw [c4]
    rw [List.getElem?_take] at e1
    simp [wordCells, hi, hx2] at e1
    simp [World.cell?, hcur, e1]
theorem lead1_pre (N : Nat) (M : Nat → Nat) (s : St) (x : Nat) : s.2.1 <+: (lead1 N M s x).2.1 := by
  unfold lead1
  split
  · exact List.prefix_rfl
  · split
    · exact List.prefix_rfl
    · exact List.prefix_append _ _
theorem allN_pre (N : Nat) (M : Nat → Nat) (s : St) (a i : Nat) : s.2.1 <+: (allN N M s a i).2.1 := by
  induction i with
  | zero => exact lead1_pre N M s _
  | succ i ih => exact ih.trans (lead1_pre N M _ _)
theorem seq_pre (N : Nat) (M : Nat → Nat) (st : Nat → St) (A : Nat → Nat) (m : Nat) (h : ∀ t, t < m → st (t + 1) = allM N M (st t) (A t)) (t d : Nat) (hd : t + d ≤ m) : (st t).2.1 <+: (st (t + d)).2.1 := by
  induction d with
  | zero => exact List.prefix_rfl
  | succ d ih =>
    refine (ih (by omega)).trans ?_
    rw [show t + (d + 1) = t + d + 1 by omega, h (t + d) (by omega)]
    exact allN_pre N M _ _ _
set_option maxRecDepth 100000 in
set_option maxHeartbeats 1000000 in
theorem steps_any (B0 h N free a b : Nat) (S : Nat → Bool) (M : Nat → Nat) (st : Nat → St) (A : Nat → Nat) (F : Nat → Int) (f : Nat → Nat) (m J res : Nat) (w : World) (H0 : HeapAt w B0 h N free S M)
    (ha : OKO N S M a) (hb0 : 1 ≤ b) (hb1 : b + 2 ≤ N) (hb2 : S b = true) (h0 : st 0 = lead1 N M ((fun _ => false), [], 0) (a * 2))
    (hst : ∀ t, t < m → OKF N S M (A t) ∧ (st t).2.1[t]? = some (A t * 2) ∧ (st t).2.1.length ≤ 1000000000 ∧ (st t).2.2 ≤ 10000000000000000 ∧ st (t + 1) = allM N M (st t) (A t))
    (hf0 : f 0 = 0) (hJ : f J = m) (hJ2 : J ≤ 1000000000) (hf : ∀ j, j < J → f j < f (j + 1) ∧ (st (f j)).2.1.length = f (j + 1) ∧ f (j + 1) ≤ m) (hm : (st m).2.1.length = m) (hm2 : m ≤ 1000000000)
    (hkeep : ∀ j, j < J → ∀ t, f j ≤ t → t + 1 < f (j + 1) → (st (t + 1)).2.1.length = (st t).2.1.length)
    (hF0 : F 0 = -1) (hF : ∀ j, j < J → ∀ t, f j ≤ t → t < f (j + 1) → F (t + 1) = if A t = b then (j : Int) else F t) (hres : F m = (res : Int)) :
    Calls Try.prog 19 #[.pointer (some ⟨h, 0, none⟩), .int .u64 (a * 2 : Int), .int .u64 (b * 2 : Int)] w fun e w' => e = .returned (.tuple #[.int .i64 (res : Int), .int .i64 0]) ∧ Below w.heap.size w w' := by
  have hN : N ≤ 16777216 := by obtain ⟨g, s, -, -, h3, -⟩ := H0; exact h3
  obtain ⟨B, hB⟩ : ∃ B, w.heap.size = B := ⟨_, rfl⟩
  have HS1 := Lib.hid (fun W (hW : Below B w W) => hhas_yes B0 h N free a S M W (H0.later (hB ▸ hW)) ha.1 (by have := ha.2.1; omega))
  have HS2 := Lib.hid (fun W (hW : Below B w W) => hhas_yes B0 h N free b S M W (H0.later (hB ▸ hW)) hb0 (by omega))
  rw [ha.2.2.1] at HS1
  rw [hb2] at HS2
  have BG := Lib.hid (fun W (hW : Below B w W) => begin_any B0 h N free S M W (H0.later (hB ▸ hW)))
  have ha2 : a * 2 < 18446744073709551616 := by have := ha.2.1; omega
  have LD := Lib.hid (fun p W (hW : Below B w W) (hL : LookS W B p h N ((fun _ => false), [], 0)) => lead_any w B0 B p h N free (a * 2) S M _ W H0 hB hW hL ⟨ha2, Or.inr ⟨a, rfl, ha⟩⟩ (Nat.zero_le _) (Nat.zero_le _))
  have AA := Lib.hid (fun p W (hW : Below B w W) t (hL : LookS W B p h N t) a ha h1 h2 => all_any w B0 B p h N free a S M t W H0 hB hW hL ha h1 h2)
  rw [show ((a * 2 : Nat) : Int) = (a : Int) * 2 by omega] at LD
  have ST := Lib.hid hst
  have S0 := Lib.hid h0
  have PX := Lib.hid (seq_pre N M st A m fun t ht => (hst t ht).2.2.2.2)
  have FF := Lib.hid hf
  have KP := Lib.hid hkeep
  have RF := Lib.hid hF
  have RE := Lib.hid hres
  have EM := Lib.hid hm
  have EJ := Lib.hid hJ
  have F0 := Lib.hid hf0
  have R0 := Lib.hid hF0
  have HSZ := Lib.hid (fun W (hW : Below B w W) => show B ≤ W.heap.size by have := hW.size; omega)
  have LT := Lib.hid (fun p N' s W W' (hW : LookS W B p h N' s) (hg : Below W.heap.size W W') => show LookS W' B p h N' s from hW.later hg)
  have BR := Lib.hid (show Below B w w from Below.refl _ _)
  have HBB := Lib.hid (fun W (hW : Below B w W) W' (h' : Below W.heap.size W W') => show Below B w W' from hW.trans (h'.mono (by have := hW.size; omega)))
  have BG2 := Lib.hid (fun W (hW : Below B w W) p W' (hL : LookAt W' W.heap.size p h N (fun _ => false) [] 0) => show LookS W' B p h N ((fun _ => false), [], 0) from by
    obtain ⟨b', v, k1, k2, k3, k4, k5⟩ := hL
    have hs : B ≤ W.heap.size := by have := hW.size; omega
    exact ⟨b', v, by omega, by omega, k3, k4.mono hs, OwnsW.mono k5 hs⟩)
  rw [hB]
  clear hst h0 hf hkeep hF hres hm hJ hf0 hF0 H0 ha hb0 hb1 hb2 ha2 hB
  go_enter Try.func19, Try.ntmps19
  go_wp2_with fail
  refine (HS1.out w BR.out).mono ?_
  rintro e w1 ⟨rfl, hg1⟩
  have HG1 := Lib.hid (HBB.out w BR.out w1 hg1)
  clear hg1
  go_wp2_with fail
  refine (HS2.out w1 HG1.out).mono ?_
  rintro e w2 ⟨rfl, hg2⟩
  have HG2 := Lib.hid (HBB.out w1 HG1.out w2 hg2)
  clear hg2
  go_wp2_with fail
  refine (BG.out w2 HG2.out).mono ?_
  rintro e w3 ⟨p, rfl, hl3, hg3⟩
  have HL3 := Lib.hid (BG2.out w2 HG2.out p w3 hl3)
  have HG3 := Lib.hid (HBB.out w2 HG2.out w3 hg3)
  clear hl3 hg3
  go_wp2_with fail
  refine (LD.out p w3 HG3.out HL3.out).mono ?_
  rintro e w4 ⟨rfl, hl4, hg4, hk4, hf4⟩
  have HL4 := Lib.hid (show LookS w4 B p h N (st (f 0)) by rw [F0.out, S0.out]; exact hl4)
  have HG4 := Lib.hid (HG3.out.trans hg4)
  clear hl4 hg4 hk4 hf4
  go_wp2_with fail
  go_loopg [9, 10, 11] J (fun gg s9 s10 s11 wr => ∃ j : Nat, gg = J - j ∧ j ≤ J ∧ s9 = .int .i64 (F (f j)) ∧ s10 = .int .i64 (j : Int) ∧ s11 = .int .i64 (f j : Int) ∧ LookS wr B p h N (st (f j)) ∧ Below B w wr)
  case atStart => exact ⟨0, rfl, by omega, by rw [F0.out, R0.out], rfl, by rw [F0.out]; rfl, HL4.out, HG4.out⟩
  case round =>
    obtain ⟨j, hgj, hj, rfl, rfl, rfl, hl5, hg5⟩ := hrel
    obtain ⟨w5, hw5⟩ : ∃ z, z = wr := ⟨_, rfl⟩
    subst hw5
    have HGJ := Lib.hid hgj
    have HL5 := Lib.hid hl5
    have HG5 := Lib.hid hg5
    obtain ⟨zl, hpl⟩ := hl5.loose
    clear hgj hg5 HL4 HG4 HL3 HG3
    by_cases hlt : j < J
    · obtain ⟨f1, f2, f3⟩ := FF.out j hlt
      obtain ⟨g, cp, y1, y2, y3, ⟨gc, y4⟩, y5⟩ := LookAt.row hl5 (by intro h; rw [h] at f2; simp at f2; omega)
      have Y4 := Lib.hid y4
      have Y5 := Lib.hid y5
      unfold maxLen at y3
      rw [f2] at y1 y2
      clear hl5 y4 y5 f2
      go_wp2_with fail
      all_goals (try (exfalso; go_light; omega))
      obtain ⟨D, hD⟩ : ∃ D, f (j + 1) - f j = D := ⟨_, rfl⟩
      have HFD := Lib.hid (show f (j + 1) = f j + D by omega)
      clear hD
      go_loopg [9, 52] D (fun gg s9 s52 wx => ∃ i : Nat, gg = D - i ∧ i ≤ D ∧ s9 = .int .i64 (F (f j + i)) ∧ s52 = .int .i64 (i : Int) ∧ LookS wx B p h N (st (f j + i)) ∧ Below B w wx ∧ (i < D → wx.heap[g]? = w5.heap[g]?))
      case atStart => exact ⟨0, rfl, by omega, rfl, rfl, HL5.out, HG5.out, fun _ => rfl⟩
      case round =>
        obtain ⟨i, hgi, hi, rfl, rfl, hl6, hg6, hk6⟩ := hrel
        have HGI := Lib.hid hgi
        have HL6 := Lib.hid hl6
        have HG6 := Lib.hid hg6
        have HK6 := Lib.hid hk6
        clear hgi hl6 hg6 hk6 HL5 HG5
        by_cases hid : i < D
        · have hfD := HFD.out
          obtain ⟨o1, o2, o3, o4, o5⟩ := ST.out (f j + i) (by omega)
          have hfr := RF.out j hlt (f j + i) (by omega) (by omega)
          have hcell : wr.cell? ⟨g, f j + i, none⟩ = some (.int .u64 ((A (f j + i) : Int) * 2)) := by
            have e1 : wr.cell? ⟨g, f j + i, none⟩ = w5.cell? ⟨g, f j + i, none⟩ := by unfold World.cell?; rw [HK6.out hid]
            rw [e1, Y5.out (f j + i) (A (f j + i) * 2) ?_]
            · congr 1
            · obtain ⟨r, hr⟩ := PX.out (f j) i (by omega)
              rw [← hr, List.getElem?_append_left (by have := FF.out j hlt; omega)] at o2
              exact o2
          have hi2 : i < f (j + 1) - f j := by omega
          have AAi := Lib.hid (AA.out p wr HG6.out (st (f j + i)) HL6.out (A (f j + i)) o1 (by omega) (by omega))
          rw [← o5] at AAi
          have KPi := Lib.hid (KP.out j hlt (f j + i) (by omega))
          clear o1 o2 o3 o4 o5
          by_cases hab : A (f j + i) = b
          · rw [if_pos hab] at hfr
            have HFR := Lib.hid hfr
            have hab2 : (A (f j + i) : Int) * 2 = b * 2 := by omega
            rw [hab2] at AAi hcell
            clear hfr hfD hab hab2
            go_wp2_with fail
            all_goals (try (exfalso; go_light; omega))
            refine AAi.out.mono ?_
            rintro e w9 ⟨rfl, hl9, hg9, hf9⟩
            have HL9 := Lib.hid (show LookS w9 B p h N (st (f j + (i + 1))) from hl9)
            have HG9 := Lib.hid (HG6.out.trans hg9)
            have HK9 := Lib.hid (show i + 1 < D → w9.heap[g]? = w5.heap[g]? from fun hi1 => by
              have e1 := HK6.out (by omega)
              have e2 := hf9 (KPi.out (by have := HFD.out; omega)) g _ _ _ (e1.trans Y4.out) (by decide)
              exact e2.trans e1)
            clear hl9 hg9 hf9
            go_wp2_with fail
            all_goals (try (exfalso; go_light; omega))
            go_roundg (D - (i + 1))
            case measure => rw [HGI.out]; omega
            case rel => exact ⟨i + 1, rfl, by omega, by rw [show f j + (i + 1) = f j + i + 1 from rfl, HFR.out], by go_num, HL9.out, HG9.out, HK9.out⟩
          · rw [if_neg hab] at hfr
            have HFR := Lib.hid hfr
            have hab2 : ¬ (A (f j + i) : Int) * 2 = b * 2 := by omega
            clear hfr hfD hab
            go_wp2_with fail
            all_goals (try (exfalso; go_light; omega))
            refine AAi.out.mono ?_
            rintro e w9 ⟨rfl, hl9, hg9, hf9⟩
            have HL9 := Lib.hid (show LookS w9 B p h N (st (f j + (i + 1))) from hl9)
            have HG9 := Lib.hid (HG6.out.trans hg9)
            have HK9 := Lib.hid (show i + 1 < D → w9.heap[g]? = w5.heap[g]? from fun hi1 => by
              have e1 := HK6.out (by omega)
              have e2 := hf9 (KPi.out (by have := HFD.out; omega)) g _ _ _ (e1.trans Y4.out) (by decide)
              exact e2.trans e1)
            clear hl9 hg9 hf9
            go_wp2_with fail
            all_goals (try (exfalso; go_light; omega))
            go_roundg (D - (i + 1))
            case measure => rw [HGI.out]; omega
            case rel => exact ⟨i + 1, rfl, by omega, by rw [show f j + (i + 1) = f j + i + 1 from rfl, HFR.out], by go_num, HL9.out, HG9.out, HK9.out⟩
        · have hiD : i = D := by omega
          have hfD := HFD.out
          have hi2 : ¬ i < f (j + 1) - f j := by omega
          have e : f j + i = f (j + 1) := by omega
          have HL7 := Lib.hid (show LookS wr B p h N (st (f (j + 1))) by rw [← e]; exact HL6.out)
          have HF7 := Lib.hid (congrArg F e)
          obtain ⟨wa, wcap, z2, -, -⟩ := HL7.out.wait
          clear hfD hiD e
          go_wp2_with fail
          all_goals (try (exfalso; go_light; omega))
          go_roundg (J - (j + 1))
          case measure => rw [HGJ.out]; omega
          case rel => exact ⟨j + 1, rfl, by omega, by rw [HF7.out], by go_num, rfl, HL7.out, HG6.out⟩
    · have hjJ : j = J := by omega
      have hL6 := hl5
      rw [hjJ, EJ.out] at hL6
      obtain ⟨wa, wcap, z2, -, -⟩ := hL6.wait
      rw [EM.out] at z2
      have ef : f j = m := by rw [hjJ, EJ.out]
      rw [ef, RE.out]
      clear hl5 hL6 hjJ ef
      go_wp2_with fail
      all_goals (try (exfalso; go_light; omega))
      trace_state
      refine bodyPost_ret (v := .tuple #[.int .i64 (res : Int), .int .i64 0]) (by simp [results, Try.results19, go_sem]) rfl ⟨rfl, HG5.out⟩
end Go.Proofs.Ytfhkmbeokdfllaa
