/- The law's fixed fact of layer 7. -/
import Derived.Test.YtaillinlbbhdkaaDoorImgF
namespace Go.Proofs.YtaillinlbbhdkaaDoor
open Go.RowKit
set_option linter.unusedVariables false
def aS : Nat → Bool := setS 40 (setS 40 (fun _ => false) ((2 : Nat) : Int) true) ((5 : Nat) : Int) true
def aM : Nat → Nat := fillM (put2 (fillM (put2 (fun _ => 0) 2 4 (packZ 1 ((1 : Nat) : Int) 0 false).toNat) (2 + 2) 1 1) 5 4 (packZ 1 ((1 : Nat) : Int) 0 false).toNat) (5 + 2) 1 4
theorem a_ok : UnOK ((4 : Nat) : Int) ((4294967297 : Nat) : Int) ∧ hK ((4294967297 : Nat) : Int) = 1 ∧ hS ((4294967297 : Nat) : Int) = 1 := by unfold UnOK hS hK; decide
theorem a2 : aM 2 = 4 ∧ aM (2 + 1) = 4294967297 ∧ aM (2 + 2) = 1 := ⟨rfl, rfl, rfl⟩
theorem a5 : aM 5 = 4 ∧ aM (5 + 1) = 4294967297 ∧ aM (5 + 2) = 4 := ⟨rfl, rfl, rfl⟩
theorem aS2 : aS 2 = true := by unfold aS; exact (setT 40 5 _ (by omega) 2).2 (Or.inr ((setT 40 2 _ (by omega) 2).2 (Or.inl rfl)))
theorem a_closed : ∀ a, aS a = true → a + 3 ≤ 40 ∧ UnOK (aM a) (aM (a + 1)) ∧ Leads1 aS (aM a) ∧ hK (aM (a + 1)) = 1 ∧ hS (aM (a + 1)) = 1 ∧ (aM (a + 2) % 2 = 1 ∨ Leads1 aS (aM (a + 2))) := by
  intro a ha
  obtain ⟨o1, o2, o3⟩ := a_ok
  have L4 : Leads1 aS 4 := ⟨2, rfl, by omega, by omega, aS2⟩
  unfold aS at ha
  rcases (setT 40 5 _ (by omega) a).1 ha with rfl | ha
  · obtain ⟨h1, h2, h3⟩ := a5
    rw [h1, h2, h3]
    exact ⟨by omega, o1, L4, o2, o3, Or.inr L4⟩
  · rcases (setT 40 2 _ (by omega) a).1 ha with rfl | ha
    · obtain ⟨h1, h2, h3⟩ := a2
      rw [h1, h2, h3]
      exact ⟨by omega, o1, L4, o2, o3, Or.inl rfl⟩
    · cases ha
theorem checkA : checkZ ((4 : Nat) : Int) 1 ((1 : Nat) : Int) 0 = 0 := by rw [checkZ_ok]; exact ⟨by decide, by decide, by decide, by decide, by decide, by decide, by decide⟩
theorem al1 (B h : Nat) (w : World) (H : HeapAt w B h 40 2 (fun _ => false) (fun _ => 0)) (hB : B ≤ w.heap.size) :
    Calls Tryd.prog 13 #[.pointer (some ⟨h, 0, none⟩), .int .u64 4, .int .i64 1, .int .i64 1, .int .u64 1] w fun e w' => e = .returned (.tuple #[.int .u64 4, .int .i64 0]) ∧
      HeapAt w' B h 40 5 (setS 40 (fun _ => false) ((2 : Nat) : Int) true) (fillM (put2 (fun _ => 0) 2 4 (packZ 1 ((1 : Nat) : Int) 0 false).toNat) (2 + 2) 1 1) ∧ Below B w w' := by
  refine (alloc_slots B h 40 2 4 1 1 1 _ _ w H hB (by omega) checkA (by omega) (by omega) (by omega) (by omega)).mono ?_
  rintro e w' ⟨rfl, h1, h2⟩
  exact ⟨rfl, h1, h2⟩
theorem al2 (B h : Nat) (w : World) (H : HeapAt w B h 40 5 (setS 40 (fun _ => false) ((2 : Nat) : Int) true) (fillM (put2 (fun _ => 0) 2 4 (packZ 1 ((1 : Nat) : Int) 0 false).toNat) (2 + 2) 1 1)) (hB : B ≤ w.heap.size) :
    Calls Tryd.prog 13 #[.pointer (some ⟨h, 0, none⟩), .int .u64 4, .int .i64 1, .int .i64 1, .int .u64 4] w fun e w' => e = .returned (.tuple #[.int .u64 10, .int .i64 0]) ∧ HeapAt w' B h 40 8 aS aM ∧ Below B w w' := by
  refine (alloc_slots B h 40 5 4 1 4 1 _ _ w H hB (by omega) checkA (by omega) (by omega) (by omega) (by omega)).mono ?_
  rintro e w' ⟨rfl, h1, h2⟩
  exact ⟨rfl, h1, h2⟩
set_option maxRecDepth 100000 in
set_option maxHeartbeats 1600000 in
theorem awake7 (w : World) (hT : TabAt 0 Lib.deBruijn64tab w) : Calls Tryd.prog 5 #[] w fun e w' => e = .returned (.bool true) ∧ Below w.heap.size w w' := by
  have NW := Lib.hid (new_yes 40 (by omega) (by omega) w)
  have HT := Lib.hid hT
  clear hT
  go_enter Tryd.func5, Tryd.ntmps5
  go_wp2_with fail
  refine NW.out.mono ?_
  rintro e w1 ⟨h, rfl, hh, hg⟩
  have AL := Lib.hid (al1 _ h w1 hh hg.size)
  have HG1 := Lib.hid hg; clear hh hg
  go_wp2_with fail
  refine AL.out.mono ?_
  rintro e w2 ⟨rfl, hh, hg⟩
  have HG2 := Lib.hid (HG1.out.trans hg)
  have AO := Lib.hid (al2 _ h w2 hh HG2.out.size)
  clear hh hg
  go_wp2_with fail
  refine AO.out.mono ?_
  rintro e w3 ⟨rfl, hh, hg⟩
  have HG3 := Lib.hid (HG2.out.trans hg)
  have EN := Lib.hid (encode_yes _ h 40 8 2 aS aM w3 hh (by omega) (by omega) (by omega) (by omega) aS2)
  have HH3 := Lib.hid hh
  clear hh hg
  go_wp2_with fail
  refine EN.out.mono ?_
  rintro e w4 ⟨bv, rfl, hob, hg4⟩
  have hl := imgL_len aM 8 (2 * 2)
  have hob' := bytes_of_owns hob
  obtain ⟨bg, bc, rfl, hb1, hb2, hb3, hb4⟩ := ownsB_form hob (by omega)
  rw [hl]
  rw [hl] at hob' hb3
  unfold maxLen at hb4
  have ht : BytesAt w4 (.slice (some ⟨bg, 0, none⟩) 4 bc) [70, 78, 68, 76] := by
    have h2 := bytes_take (c := bc) (a := some ⟨bg, 0, none⟩) (m := 4) (l := imgL aM 8 (2 * 2)) (by rw [hl]; exact hob') (by omega)
    exact h2
  have ks := run_string_of ht
  have HG4 := Lib.hid (HG3.out.trans (hg4.mono HG3.out.size))
  have CL := Lib.hid (closed_yes _ h 40 8 aS aM w4 (HH3.out.later hg4) (by omega) rfl (tab_later HT.out HG4.out) a_closed)
  clear hob hob' hg4 hl ht
  go_wp2_with fail
  refine CL.out.mono ?_
  rintro e w5 ⟨rfl, hg5⟩
  have HG5 := Lib.hid (HG4.out.trans (hg5.mono HG4.out.size))
  clear hg5
  go_wp2_with fail
  go_ret
  exact ⟨rfl, HG5.out⟩
end Go.Proofs.YtaillinlbbhdkaaDoor
