/- HeapFills: memory takes objects up to its last cell, and not one more: for every size and sizes. -/
import Derived.Test.YtfhkmbeokdfllaaHeapAwake
import Derived.Lib.MinMax
import Derived.Test.YtfhkmbeokdfllaaPackOpen
import Derived.ProofKit
import Derived.ChangeOld
import Derived.Deep.CutBlock
namespace Go.Proofs.Ytfhkmbeokdfllaa.heapFills
open Go.ChangeShapes Go.WideShapes Go.ChangeAt Go.RowKit
set_option linter.unusedVariables false
theorem check4 {k : Int} {n : Nat} (h0 : 0 ≤ k) (h1 : k ≤ 1) (hn : n ≤ 1048576) : checkZ 4 k n 0 = 0 := by
  rw [checkZ_ok]; exact ⟨by decide, by decide, by omega, by omega, by decide, h0, by omega⟩
set_option maxRecDepth 100000 in
set_option maxHeartbeats 2000000 in
theorem walk (cells : Int) (lv : Value) (sizes : List Int) (w : World) (hl : NumsAt w .i64 lv sizes) :
    Calls Try.prog 3 #[.int .i64 cells, lv] w fun e w' => e = .returned (.bool true) ∧ Below w.heap.size w w' := by
  have HL := Lib.hid hl
  obtain ⟨la, lcap, rfl, lc1, lc2, -, -⟩ := hl
  unfold maxLen at lc2
  obtain ⟨N, hN⟩ : ∃ N : Nat, max 16 (min cells 600) = (N : Int) := ⟨(max 16 (min cells 600)).toNat, by omega⟩
  have hN0 : 16 ≤ N := by omega
  have hN6 : N ≤ 600 := by omega
  have NW := Lib.hid (fun W => new_yes N hN0 (by omega) W)
  go_enter Try.func3, Try.ntmps3
  go_wp2_with fail
  refine (awake4 _).mono ?_
  rintro e w1 ⟨rfl, hg⟩
  have HL1 := Lib.hid (HL.out.later hg)
  have HG1 := Lib.hid hg; clear hg
  go_wp2_with fail
  refine (NW.out w1).mono ?_
  rintro e w2 ⟨h, rfl, hh, hg⟩
  have HH2 := Lib.hid hh; have HG2 := Lib.hid hg; clear hh hg
  have HLL := Lib.hid (fun wr (hw : Below w1.heap.size w1 wr) => HL1.out.later hw)
  have HGL := Lib.hid (fun wr (hw : Below w1.heap.size w1 wr) => HG1.out.trans (hw.mono HG1.out.size))
  have HSZ := Lib.hid (fun wr (hw : Below w1.heap.size w1 wr) => hw.size)
  generalize hBB : w1.heap.size = B at *
  have HBB := Lib.hid hBB; clear hBB
  go_upto_block 0 with fail
  go_cut [4, 7, 8, 9, 10, 11, 12] from 31 to 91 (fun s4 s7 s8 s9 s10 s11 s12 wr => ∃ (free : Nat) (S : Nat → Bool) (M : Nat → Nat), s7 = .int .i64 ((N : Int) - free) ∧ 2 ≤ free ∧ free ≤ N ∧ HeapAt wr B h N free S M ∧ Below B w1 wr)
  case first =>
    go_wp2_with fail
    go_loopg [7, 8] 60 (fun gg s7 s8 wr => ∃ (k free : Nat) (S : Nat → Bool) (M : Nat → Nat), gg = 60 - k ∧ k ≤ 60 ∧ s8 = .int .i64 k ∧ s7 = .int .i64 ((N : Int) - free) ∧ 2 ≤ free ∧ free ≤ N ∧ HeapAt wr B h N free S M ∧ Below B w1 wr)
    case atStart => exact ⟨0, 2, _, _, rfl, by omega, rfl, by go_num, by omega, by omega, HH2.out, HG2.out⟩
    case round =>
      obtain ⟨k, free, S, M, hgk, hk, rfl, rfl, hf2, hfN, hh, hg⟩ := hrel
      have HK := Lib.hid hgk; have HH := Lib.hid hh; have HG := Lib.hid hg; clear hgk
      by_cases hgo : k < sizes.length ∧ k < 60
      · obtain ⟨hgo1, hgo2⟩ := hgo
        obtain ⟨la', lcap', hla', -, -, -, hcc⟩ := HLL.out wr hg
        injection hla' with hla1 hla2 hla3
        subst hla1 hla3
        obtain ⟨cb, co, hca, hcv, hcw⟩ := hcc k hgo1
        subst hca
        have bx := bounds_i64 hcw
        clear hcc hcw hla2
        generalize sizes[k] = x at *
        obtain ⟨n, hn⟩ : ∃ n : Nat, max 0 (min x 700) = (n : Int) := ⟨(max 0 (min x 700)).toNat, by omega⟩
        have hn7 : n ≤ 700 := by omega
        have hBs : B ≤ wr.heap.size := HSZ.out wr hg
        obtain ⟨kd, hkd⟩ : ∃ kd : Int, (k : Int) % 2 = kd := ⟨_, rfl⟩
        have hz := check4 (k := kd) (n := n) (by omega) (by omega) (by omega)
        have hk2 : kd ≠ 2 := by omega
        by_cases hfit : free + n + 2 ≤ N
        · have AL := Lib.hid (alloc_slots B h N free 4 n 1 kd S M wr hh hBs (by omega) hz hk2 (by omega) hfit hf2)
          have q1 : (n : Int) + 2 ≤ (N : Int) - free := by omega
          clear hz hk2 hh hg
          go_wp2_with fail
          all_goals (try (exfalso; go_light; omega))
          refine AL.out.mono ?_
          rintro e w4 ⟨rfl, hh4, hg4⟩
          have HH4 := Lib.hid hh4
          have HG4 := Lib.hid (HG.out.trans hg4)
          have FR := Lib.hid (free_any B h N _ _ _ w4 hh4)
          clear hh4 hg4
          go_wp2_with fail
          all_goals (try (exfalso; go_light; omega))
          refine FR.out.mono ?_
          rintro e w5 ⟨rfl, hg5⟩
          have HH5 := Lib.hid (HH4.out.later hg5)
          have HG5 := Lib.hid (HG4.out.trans (hg5.mono (HSZ.out w4 HG4.out)))
          have US := Lib.hid (used_any B h N _ _ _ w5 HH5.out)
          clear hg5
          have q2 : ((N - (free + 2 + n) : Nat) : Int) = (N : Int) - free - ((n : Int) + 2) := by omega
          go_wp2_with fail
          all_goals (try (exfalso; go_light; omega))
          refine US.out.mono ?_
          rintro e w6 ⟨rfl, hw6⟩
          subst hw6
          go_wp2_with fail
          all_goals (try (exfalso; go_light; omega))
          go_roundg (60 - (k + 1))
          case measure => rw [HK.out]; omega
          case rel => exact ⟨k + 1, free + 2 + n, _, _, rfl, by omega, by go_num, by congr 1; omega, by omega, by omega, HH5.out, HG5.out⟩
        · have AL := Lib.hid (alloc_full B h N free 4 n 1 kd S M wr hh hBs (by omega) hz hk2 (by omega))
          have q1 : ¬ (n : Int) + 2 ≤ (N : Int) - free := by omega
          clear hz hk2 hh hg
          go_wp2_with fail
          all_goals (try (exfalso; go_light; omega))
          refine AL.out.mono ?_
          rintro e w4 ⟨rfl, hg4⟩
          have HH4 := Lib.hid (HH.out.later hg4)
          have HG4 := Lib.hid (HG.out.trans (hg4.mono hBs))
          have FR := Lib.hid (free_any B h N _ _ _ w4 HH4.out)
          clear hg4
          go_wp2_with fail
          all_goals (try (exfalso; go_light; omega))
          refine FR.out.mono ?_
          rintro e w5 ⟨rfl, hg5⟩
          have HH5 := Lib.hid (HH4.out.later hg5)
          have HG5 := Lib.hid (HG4.out.trans (hg5.mono (HSZ.out w4 HG4.out)))
          have US := Lib.hid (used_any B h N _ _ _ w5 HH5.out)
          clear hg5
          have q2 : ((N - free : Nat) : Int) = (N : Int) - free := by omega
          go_wp2_with fail
          all_goals (try (exfalso; go_light; omega))
          refine US.out.mono ?_
          rintro e w6 ⟨rfl, hw6⟩
          subst hw6
          go_wp2_with fail
          all_goals (try (exfalso; go_light; omega))
          go_roundg (60 - (k + 1))
          case measure => rw [HK.out]; omega
          case rel => exact ⟨k + 1, free, _, _, rfl, by omega, by go_num, rfl, hf2, hfN, HH5.out, HG5.out⟩
      · have hgo' : (k : Int) < sizes.length → ¬ (k : Int) < 60 := by omega
        clear hgo hh hg
        go_wp2_with fail
        all_goals (try (exfalso; go_light; omega))
        all_goals go_meet
        all_goals exact ⟨free, S, M, rfl, hf2, hfN, HH.out, HG.out⟩
  case rest =>
    obtain ⟨free, S, M, rfl, hf2, hfN, hh, hg⟩ := hcut
    obtain ⟨wr, hwr⟩ : ∃ z, z = wc := ⟨_, rfl⟩
    subst hwr
    have hBs : B ≤ wr.heap.size := HSZ.out wr hg
    have HG := Lib.hid hg; have HH := Lib.hid hh
    by_cases hl2 : N < free + 2
    · have AL := Lib.hid (alloc_full B h N free 4 0 1 0 S M wr hh hBs (by omega) (check4 (by omega) (by omega) (by omega)) (by omega) (by omega))
      have q1 : (N : Int) - free < 2 := by omega
      clear hh hg
      go_wp2_with fail
      all_goals (try (exfalso; go_light; omega))
      refine AL.out.mono ?_
      rintro e w4 ⟨rfl, hg4⟩
      have HG4 := Lib.hid (HGL.out wr HG.out)
      have HG5 := Lib.hid (HG4.out.trans (hg4.mono HG4.out.size)); clear hg4
      go_wp2_with fail
      go_ret
      exact ⟨rfl, HG5.out⟩
    · obtain ⟨n, hn⟩ : ∃ n : Nat, (N : Int) - free - 2 = (n : Int) := ⟨N - free - 2, by omega⟩
      have hnN : free + 2 + n = N := by omega
      have AL := Lib.hid (alloc_slots B h N free 4 n 1 1 S M wr hh hBs (by omega) (check4 (by omega) (by omega) (by omega)) (by omega) (by omega) (by omega) hf2)
      rw [hnN] at AL
      have hSf : setS N S (free : Int) true free = true := by unfold setS; rw [if_pos ⟨by omega, by omega, by simp⟩]
      have q1 : ¬ (N : Int) - free < 2 := by omega
      clear hh hg
      go_wp2_with fail
      all_goals (try (exfalso; go_light; omega))
      refine AL.out.mono ?_
      rintro e w4 ⟨rfl, hh4, hg4⟩
      have HH4 := Lib.hid hh4
      have HG4 := Lib.hid (HG.out.trans hg4)
      have HA := Lib.hid (hhas_yes B h N N free _ _ w4 hh4 (by omega) (by omega))
      rw [hSf] at HA
      clear hh4 hg4 hSf
      go_wp2_with fail
      all_goals (try (exfalso; go_light; omega))
      refine HA.out.mono ?_
      rintro e w5 ⟨rfl, hg5⟩
      have HH5 := Lib.hid (HH4.out.later hg5)
      have HG5 := Lib.hid (HG4.out.trans (hg5.mono (HSZ.out w4 HG4.out)))
      clear hg5
      have A2 := Lib.hid (alloc_full B h N N 4 0 1 0 _ _ w5 HH5.out (HSZ.out w5 HG5.out) (by omega) (check4 (by omega) (by omega) (by omega)) (by omega) (by omega))
      go_wp2_with fail
      refine A2.out.mono ?_
      rintro e w6 ⟨rfl, hg6⟩
      have HH6 := Lib.hid (HH5.out.later hg6)
      have HG6 := Lib.hid (HG5.out.trans (hg6.mono (HSZ.out w5 HG5.out)))
      have FR := Lib.hid (free_any B h N N _ _ w6 HH6.out)
      rw [show ((N - N : Nat) : Int) = 0 by omega] at FR
      clear hg6
      go_wp2_with fail
      refine FR.out.mono ?_
      rintro e w7 ⟨rfl, hg7⟩
      have HG7 := Lib.hid (HG6.out.trans (hg7.mono (HSZ.out w6 HG6.out)))
      have HG8 := Lib.hid (HGL.out w7 HG7.out)
      clear hg7
      go_wp2_with fail
      go_ret
      exact ⟨rfl, HG8.out⟩
theorem own : ownKnob Try.prog.godebug = none := by kernel_rfl
theorem laidOut : laidOutB Try.prog = true := by kernel_rfl
set_option maxRecDepth 100000 in
theorem lifted (os : Os) (started : os.Started) (H : Type) (enc : TypeId × Value → H) :
    ReturnsInHanded {} Try.checked os 3 .any (Rows.heapFillsSpec.pre6 enc Try.prog Try.f3 Rows.heapFillsRow.domain false) (Rows.heapFillsSpec.post enc Try.prog Try.f3 false true false false) := by
  refine returnsInHanded_of_change (C := Try.checked) own started (by kernel_rfl) Try.func3
    (ChangeSpec.witness6 (enc := enc) (C := Try.checked) false ⟨#[], #[.int .i64 0, .slice none 0 0], []⟩ 8 (by kernel_rfl) (by kernel_rfl) (by kernel_rfl) (by kernel_rfl)) ?_
  intro W base args ds gs before hval0 hW hcnd _
  have hval : ∀ (j : Nat) t v, Try.f3.params[j]? = some t → args[j]? = some v → Value.okWide Try.prog W .any base t v := hval0
  have hW' := hW
  obtain ⟨p, q, hA0, hV, rfl, hfz, hnd⟩ := hW
  have hA : DataW.TrodAll enc Try.prog W 0 (fun _ => true) true Try.f3.params.toList args.toList ds p := hA0
  rw [Try.params3] at hA hval
  obtain ⟨v0, vs0, d0, ds0, p0, q0, hargs, rfl, rfl, h0, r0⟩ := trodAll_cons hA
  obtain ⟨v1, vs1, d1, ds1, p1, q1, rfl, rfl, rfl, h1, r1⟩ := trodAll_cons r0
  obtain ⟨rfl, rfl, rfl⟩ := trodAll_nil r1
  obtain rfl : args = #[v0, v1] := by cases args; simp_all
  obtain ⟨rfl, rfl⟩ := trodVars_none hV
  have k0 := h0
  have lt0 : ∀ x ∈ p0, x.block < W.heap.size := by obtain ⟨m, hm⟩ := k0; exact DataW.trod_lt m _ _ _ hm
  have k1 := h1
  have lt1 : ∀ x ∈ p1, x.block < W.heap.size := by obtain ⟨m, hm⟩ := k1; exact DataW.trod_lt m _ _ _ hm
  obtain ⟨n, rfl, -, -, hn⟩ := open_int Try.underlying3 (hval 0 3 v0 rfl rfl) h0
  obtain ⟨list, hl⟩ := open_nums Try.underlying22 Try.underlying3 (by kernel_rfl) (hval 1 22 v1 rfl rfl) h1
  clear hA0 hval0
  refine (walk n v1 list W hl).mono fun e W' ⟨he, bel⟩ => ?_
  subst he
  exact ⟨_, rfl, _, _, _, [], _, [], hW', trodAll_mk1 (shut_bool Try.underlying4 _), (trodAll_cons_mk (Below.trod laidOut (by kernel_rfl) (of_decide_eq_true (by kernel_rfl)) k0 bel lt0) (trodAll_cons_mk (Below.trod laidOut (by kernel_rfl) (of_decide_eq_true (by kernel_rfl)) k1 bel lt1) trodAll_mk0)), rfl, bel.frame _, fun h => by cases h⟩
theorem over : Rows.heapFillsRow.holds Try.pinned (OpenSpec.ofChange Rows.heapFillsSpec) :=
  OpenClaim.holds_of_wide 3 Try.f3 rfl rfl rfl rfl rfl rfl rfl ⟨rfl, rfl, rfl, rfl, rfl⟩ rfl rfl rfl rfl rfl (by kernel_rfl) Try.func3 (by kernel_rfl)
    (of_decide_eq_true (by kernel_rfl)) (by unfold Func.isWrapper; rw [if_neg (by decide +kernel)]; exact ⟨rfl, rfl⟩)
    (fun os started H enc _ => lifted os started H enc)
theorem proved : Rows.HeapFillsSaid := over
end Go.Proofs.Ytfhkmbeokdfllaa.heapFills
