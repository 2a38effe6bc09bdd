/- The law's fixed fact of layer 4. -/
import Derived.Test.YtfhkmbeokdfllaaHeapE
namespace Go.Proofs.Ytfhkmbeokdfllaa
open Go.RowKit
set_option linter.unusedVariables false
def awM : Nat → Nat := fillM (put2 (fun _ => 0) 2 2 (packZ 1 3 0 false).toNat) 4 3 1
def awS : Nat → Bool := setS 16 (fun _ => false) 2 true
theorem awM2 : awM 2 = 2 := by decide
theorem awM3 : awM 3 = 4294967299 := by decide
theorem awM6 : awM (2 + 2 + 2) = 1 := by decide
theorem awOK : UnOK (awM 2) (awM (2 + 1)) := by rw [awM2, show awM (2 + 1) = 4294967299 from awM3]; unfold UnOK hS hK; decide
set_option maxRecDepth 100000 in
theorem awake4 (w : World) : Calls Try.prog 6 #[] w fun e w' => e = .returned (.bool true) ∧ Below w.heap.size w w' := by
  have HK1 : hK (awM (2 + 1) : Int) ≠ 2 := by rw [show awM (2 + 1) = 4294967299 from awM3]; unfold hK; decide
  have HS3 : ((2 : Nat) : Int) < hS (awM (2 + 1) : Int) := by rw [show awM (2 + 1) = 4294967299 from awM3]; unfold hS; decide
  have AL := Lib.hid (fun B h W (H : HeapAt W B h 16 2 (fun _ => false) (fun _ => 0)) (hB : B ≤ W.heap.size) => alloc_slots B h 16 2 2 3 1 1 (fun _ => false) (fun _ => 0) W H hB (by omega) (by decide) (by decide) (by omega) (by omega) (by omega))
  have GT := Lib.hid (fun B h W (H : HeapAt W B h 16 7 awS awM) => hget_yes B h 16 7 2 2 awS awM W H (by omega) (by omega) (by decide) awOK HK1 HS3)
  rw [awM6] at GT
  have H4 := Lib.hid (fun B h W (H : HeapAt W B h 16 7 awS awM) => hhas_yes B h 16 7 2 awS awM W H (by omega) (by omega))
  have H6 := Lib.hid (fun B h W (H : HeapAt W B h 16 7 awS awM) => hhas_yes B h 16 7 3 awS awM W H (by omega) (by omega))
  rw [show awS 2 = true by decide] at H4
  rw [show awS 3 = false by decide] at H6
  have NW := Lib.hid (new_yes 16 (by omega) (by omega) w)
  clear HK1 HS3
  go_enter Try.func6, Try.ntmps6
  go_wp2_with fail
  refine NW.out.mono ?_
  rintro e w1 ⟨h, rfl, hh, hg⟩
  have HH1 := Lib.hid hh; have HG1 := Lib.hid hg; clear hh hg
  go_wp2_with fail
  refine (AL.out _ _ w1 HH1.out HG1.out.size).mono ?_
  rintro e w2 ⟨rfl, hh, hg⟩
  have HH2 := Lib.hid (show HeapAt w2 w.heap.size h 16 7 awS awM from hh); have HG2 := Lib.hid (HG1.out.trans hg); clear hh hg
  go_wp2_with fail
  refine (GT.out _ _ w2 HH2.out).mono ?_
  rintro e w3 ⟨rfl, hg⟩
  have HH3 := Lib.hid (HH2.out.later hg); have HG3 := Lib.hid (HG2.out.trans (hg.mono HG2.out.size)); clear hg
  go_wp2_with fail
  refine (used_any _ _ 16 7 _ _ w3 HH3.out).mono ?_
  rintro e w4 ⟨rfl, hw⟩
  subst hw
  go_wp2_with fail
  refine (H4.out _ _ _ HH3.out).mono ?_
  rintro e w5 ⟨rfl, hg⟩
  have HH5 := Lib.hid (HH3.out.later hg); have HG5 := Lib.hid (HG3.out.trans (hg.mono HG3.out.size)); clear hg
  go_wp2_with fail
  refine (H6.out _ _ w5 HH5.out).mono ?_
  rintro e w6 ⟨rfl, hg⟩
  have HG6 := Lib.hid (HG5.out.trans (hg.mono HG5.out.size)); clear hg
  go_wp2_with fail
  go_ret
  exact ⟨rfl, HG6.out⟩
end Go.Proofs.Ytfhkmbeokdfllaa
