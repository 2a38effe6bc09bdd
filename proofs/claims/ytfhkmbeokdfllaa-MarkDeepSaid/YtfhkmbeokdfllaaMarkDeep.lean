/- MarkDeep: however long a chain of objects is, all of it is reached: for every length. -/
import Derived.Test.YtfhkmbeokdfllaaMarkI
import Derived.Lib.MinMax
import Derived.ProofKit
import Derived.ChangeOld
import Derived.Deep.CutBlock
namespace Go.Proofs.Ytfhkmbeokdfllaa.markDeep
open Go.ChangeShapes Go.WideShapes Go.ChangeAt Go.RowKit
set_option linter.unusedVariables false
set_option maxRecDepth 100000 in
set_option maxHeartbeats 1000000 in
theorem walk (n0 from_ : Int) (w : World) :
    Calls Try.prog 5 #[.int .i64 n0, .int .i64 from_] w fun e w' => e = .returned (.bool true) ∧ Below w.heap.size w w' := by
  obtain ⟨n, hn⟩ : ∃ n : Nat, max 1 (min n0 3000) = (n : Int) := ⟨(max 1 (min n0 3000)).toNat, by omega⟩
  have hn1 : 1 ≤ n := by omega
  have hn3 : n ≤ 3000 := by omega
  have NW := Lib.hid (fun W => new_yes (3 * n + 20) (by omega) (by omega) W)
  rw [show ((3 * n + 20 : Nat) : Int) = 3 * (n : Int) + 20 by omega] at NW
  go_enter Try.func5, Try.ntmps5
  go_wp2_with fail
  refine (awake5 _).mono ?_
  rintro e w1 ⟨rfl, hg⟩
  have HG1 := Lib.hid hg; clear hg
  go_wp2_with fail
  refine (NW.out w1).mono ?_
  rintro e w2 ⟨h, rfl, hh, hg⟩
  have AL := Lib.hid (alloc_class _ h _ _ _ w2 hh hg.size)
  have HG2 := Lib.hid hg
  clear hh hg
  go_wp2_with fail
  refine AL.out.mono ?_
  rintro e w3 ⟨rfl, ⟨S3, M3, hh, hc⟩, hg⟩
  have HG3 := Lib.hid (HG2.out.trans hg)
  have HH3 := Lib.hid hh
  have HC3 := Lib.hid hc
  clear hh hg hc
  go_wp2_with fail
  go_loopg [9, 10, 11] n (fun gg s9 s10 s11 wr => ∃ (k x y : Nat) (S : Nat → Bool) (M : Nat → Nat), gg = n - k ∧ k ≤ n ∧ s9 = .int .u64 (x : Int) ∧ x = (if k = 0 then 1 else (1 + 3 * k) * 2) ∧ s10 = .int .u64 (y : Int) ∧ y = (if k = 0 then 0 else 8) ∧ s11 = .int .i64 (k : Int) ∧ HeapAt wr w1.heap.size h (3 * n + 20) (4 + 3 * k) S M ∧ Chain k S M ∧ Below w1.heap.size w1 wr)
  case atStart => exact ⟨0, 1, 0, S3, M3, rfl, by omega, rfl, rfl, rfl, rfl, rfl, HH3.out, HC3.out, HG3.out⟩
  case round =>
    obtain ⟨k, x, y, S, M, hgk, hk, rfl, hx, rfl, hy, rfl, hh, hc, hg⟩ := hrel
    have HK := Lib.hid hgk
    have HH := Lib.hid hh
    have HC := Lib.hid hc
    have HG := Lib.hid hg
    have HX := Lib.hid hx
    have HY := Lib.hid hy
    clear hgk hh hc hg hx hy HG3 HH3 HC3 HG2 AL
    by_cases hlt : k < n
    · have AO := Lib.hid (alloc_obj _ h (3 * n + 20) k S M wr HH.out HG.out.size HC.out (by omega))
      rw [← HX.out] at AO
      go_wp2_with fail
      refine AO.out.mono ?_
      rintro e w4 ⟨rfl, ⟨S4, M4, hh, hc⟩, hg⟩
      have HH4 := Lib.hid hh
      have HC4 := Lib.hid hc
      have HG4 := Lib.hid (HG.out.trans hg)
      clear hh hc hg
      by_cases hk0 : k = 0
      · subst hk0
        go_wp2_with fail
        all_goals (try (exfalso; go_light; omega))
        go_roundg (n - (0 + 1))
        case measure => rw [HK.out]; omega
        case rel => exact ⟨0 + 1, 8, 8, S4, M4, rfl, by omega, rfl, by decide, rfl, by decide, rfl, HH4.out, HC4.out, HG4.out⟩
      · go_wp2_with fail
        all_goals (try (exfalso; go_light; omega))
        go_roundg (n - (k + 1))
        case measure => rw [HK.out]; omega
        case rel => exact ⟨k + 1, (4 + 3 * k) * 2, y, S4, M4, rfl, by omega, by congr 1, by rw [if_neg (by omega)]; omega, rfl, by rw [HY.out, if_neg hk0, if_neg (by omega)], by go_num, HH4.out, HC4.out, HG4.out⟩
    · have hkn : k = n := by omega
      subst hkn
      have hx : x = lo k 0 * 2 := by rw [HX.out, if_neg (by omega)]; unfold lo; omega
      have hy : y = 8 := by rw [HY.out, if_neg (by omega)]
      subst hy
      have RC := Lib.hid (reach_new _ h (3 * k + 20) _ k x S M wr HH.out HC.out hn1 (by omega) hx)
      have SC := Lib.hid (fun W (hW : Below wr.heap.size wr W) => steps_chain _ h (3 * k + 20) _ k S M W (HH.out.later hW) HC.out hn1 (by omega))
      rw [show (lo k 0 : Int) * 2 = (x : Int) by omega, show ((k - 1 : Nat) : Int) = (k : Int) - 1 by omega] at SC
      rw [show ((2 + 3 * k : Nat) : Int) = 2 + 3 * (k : Int) by omega] at RC
      have CE := Lib.hid (fun W (hW : Below wr.heap.size wr W) => hcells_any _ h (3 * k + 20) _ S M W (HH.out.later hW))
      have HSZ := Lib.hid (show w1.heap.size ≤ wr.heap.size from HG.out.size)
      clear hx
      go_wp2_with fail
      all_goals (try (exfalso; go_light; omega))
      refine RC.out.mono ?_
      rintro e w5 ⟨b, rfl, hb, hg⟩
      have HB5 := Lib.hid hb
      have HG5 := Lib.hid hg
      clear hb hg
      go_wp2_with fail
      refine (SC.out w5 HG5.out).mono ?_
      rintro e w6 ⟨rfl, hg⟩
      have HG6 := Lib.hid (HG5.out.trans (hg.mono HG5.out.size))
      have HB6 := Lib.hid (HB5.out.later hg)
      clear hg
      go_wp2_with fail
      all_goals (try (exfalso; go_light; omega))
      refine (CE.out w6 HG6.out).mono ?_
      rintro e w7 ⟨rfl, hw7⟩
      subst hw7
      have BL := Lib.hid (below_all _ b k (3 * k + 20) _ HB6.out hn1 (by omega))
      rw [show ((k + 1 : Nat) : Int) = (k : Int) + 1 by omega, show ((3 * k + 20 : Nat) : Int) = 3 * (k : Int) + 20 by omega] at BL
      go_wp2_with fail
      all_goals (try (exfalso; go_light; omega))
      refine BL.out.mono ?_
      rintro e w8 ⟨rfl, hw8⟩
      subst hw8
      go_wp2_with fail
      all_goals (try (exfalso; go_light; omega))
      go_ret
      exact ⟨rfl, HG1.out.trans ((HG.out.trans (HG6.out.mono HSZ.out)).mono HG1.out.size)⟩
theorem own : ownKnob Try.prog.godebug = none := by kernel_rfl
theorem laidOut : laidOutB Try.prog = true := by kernel_rfl
set_option maxRecDepth 100000 in
theorem lifted (os : Os) (started : os.Started) (H : Type) (enc : TypeId × Value → H) :
    ReturnsInHanded {} Try.checked os 5 .any (Rows.markDeepSpec.pre6 enc Try.prog Try.f5 Rows.markDeepRow.domain false) (Rows.markDeepSpec.post enc Try.prog Try.f5 false true false false) := by
  refine returnsInHanded_of_change (C := Try.checked) own started (by kernel_rfl) Try.func5
    (ChangeSpec.witness6 (enc := enc) (C := Try.checked) false ⟨#[], #[.int .i64 0, .int .i64 0], []⟩ 8 (by kernel_rfl) (by kernel_rfl) (by kernel_rfl) (by kernel_rfl)) ?_
  intro W base args ds gs before hval0 hW hcnd _
  have hval : ∀ (j : Nat) t v, Try.f5.params[j]? = some t → args[j]? = some v → Value.okWide Try.prog W .any base t v := hval0
  have hW' := hW
  obtain ⟨p, q, hA0, hV, rfl, hfz, hnd⟩ := hW
  have hA : DataW.TrodAll enc Try.prog W 0 (fun _ => true) true Try.f5.params.toList args.toList ds p := hA0
  rw [Try.params5] at hA hval
  obtain ⟨v0, vs0, d0, ds0, p0, q0, hargs, rfl, rfl, h0, r0⟩ := trodAll_cons hA
  obtain ⟨v1, vs1, d1, ds1, p1, q1, rfl, rfl, rfl, h1, r1⟩ := trodAll_cons r0
  obtain ⟨rfl, rfl, rfl⟩ := trodAll_nil r1
  obtain rfl : args = #[v0, v1] := by cases args; simp_all
  obtain ⟨rfl, rfl⟩ := trodVars_none hV
  have k0 := h0
  have lt0 : ∀ x ∈ p0, x.block < W.heap.size := by obtain ⟨m, hm⟩ := k0; exact DataW.trod_lt m _ _ _ hm
  have k1 := h1
  have lt1 : ∀ x ∈ p1, x.block < W.heap.size := by obtain ⟨m, hm⟩ := k1; exact DataW.trod_lt m _ _ _ hm
  obtain ⟨n, rfl, -, -, hn⟩ := open_int Try.underlying3 (hval 0 3 v0 rfl rfl) h0
  obtain ⟨m, rfl, -, -, hm⟩ := open_int Try.underlying3 (hval 1 3 v1 rfl rfl) h1
  clear hA0 hval0
  refine (walk n m W).mono fun e W' ⟨he, bel⟩ => ?_
  subst he
  exact ⟨_, rfl, _, _, _, [], _, [], hW', trodAll_mk1 (shut_bool Try.underlying4 _), (trodAll_cons_mk (Below.trod laidOut (by kernel_rfl) (of_decide_eq_true (by kernel_rfl)) k0 bel lt0) (trodAll_cons_mk (Below.trod laidOut (by kernel_rfl) (of_decide_eq_true (by kernel_rfl)) k1 bel lt1) trodAll_mk0)), rfl, bel.frame _, fun h => by cases h⟩
theorem over : Rows.markDeepRow.holds Try.pinned (OpenSpec.ofChange Rows.markDeepSpec) :=
  OpenClaim.holds_of_wide 5 Try.f5 rfl rfl rfl rfl rfl rfl rfl ⟨rfl, rfl, rfl, rfl, rfl⟩ rfl rfl rfl rfl rfl (by kernel_rfl) Try.func5 (by kernel_rfl)
    (of_decide_eq_true (by kernel_rfl)) (by unfold Func.isWrapper; rw [if_neg (by decide +kernel)]; exact ⟨rfl, rfl⟩)
    (fun os started H enc _ => lifted os started H enc)
theorem proved : Rows.MarkDeepSaid := over
end Go.Proofs.Ytfhkmbeokdfllaa.markDeep
