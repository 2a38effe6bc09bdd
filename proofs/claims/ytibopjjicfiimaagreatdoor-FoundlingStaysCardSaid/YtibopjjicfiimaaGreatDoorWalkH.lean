/- Memory's objects, one behind the other. -/
import Derived.Test.YtibopjjicfiimaaGreatDoorLaidTab
import Derived.Test.YtibopjjicfiimaaGreatDoorHeapPut
import Derived.Test.YtibopjjicfiimaaGreatDoorHeadD
namespace Go.Proofs.YtibopjjicfiimaaGreatDoor
open Go.RowKit
set_option linter.unusedVariables false
/-- the first start from a place on: its pointer; nought: there is none -/
def IsFrom (N : Nat) (S : Nat → Bool) (i : Int) (x : Nat) : Prop :=
  (x = 0 ∧ ∀ j : Nat, i ≤ (j : Int) → j < N → S j = false) ∨ (∃ k : Nat, x = k * 2 ∧ k < N ∧ i ≤ (k : Int) ∧ S k = true ∧ ∀ j : Nat, i ≤ (j : Int) → j < k → S j = false)
set_option maxRecDepth 100000 in
theorem from_any (B h N free : Nat) (S : Nat → Bool) (M : Nat → Nat) (i : Int) (w : World) (H : HeapAt w B h N free S M) (hN : N ≤ 16777216) (hS : S 0 = false) (hT : TabAt 0 Lib.deBruijn64tab w) :
    Calls Tryz.prog 91 #[.pointer (some ⟨h, 0, none⟩), .int .i64 i] w fun e w' => ∃ x : Nat, e = .returned (.int .u64 (x : Int)) ∧ IsFrom N S i x ∧ Below w.heap.size w w' := by
  obtain ⟨s, c2, hl, hb, -⟩ := H.bits
  have NX := Lib.hid (next_any _ s N S i w hb hT)
  clear hb hT H
  go_enter Tryz.func91, Tryz.ntmps91
  go_wp2_with fail
  refine NX.out.mono ?_
  rintro e w1 ⟨r, rfl, hr, rfl⟩
  rcases hr with ⟨rfl, hr⟩ | ⟨k, rfl, hk1, hk2, hk3, hk4⟩
  · have HR := Lib.hid hr
    clear hr
    go_wp2_with fail
    exact bodyPost_ret (v := .int .u64 0) (by simp [results, Tryz.results91, go_sem]) rfl ⟨0, rfl, Or.inl ⟨rfl, HR.out⟩, Below.refl _ _⟩
  · have hk0 : k ≠ 0 := fun e => by subst e; rw [hS] at hk3; cases hk3
    have HK := Lib.hid hk3; have HK4 := Lib.hid hk4
    clear hk3 hk4
    go_wp2_with fail
    refine (ptr_yes (k : Int) (by omega) (by omega) _).mono ?_
    rintro e w2 ⟨rfl, rfl⟩
    go_wp2_with fail
    exact bodyPost_ret (v := .int .u64 ((k : Int) * 2)) (by simp [results, Tryz.results91, go_sem]) rfl ⟨k * 2, by simp, Or.inr ⟨k, rfl, hk1, hk2, HK.out, HK4.out⟩, Below.refl _ _⟩
set_option maxRecDepth 100000 in
theorem first_any (B h N free : Nat) (S : Nat → Bool) (M : Nat → Nat) (w : World) (H : HeapAt w B h N free S M) (hN : N ≤ 16777216) (hS : S 0 = false) (hT : TabAt 0 Lib.deBruijn64tab w) :
    Calls Tryz.prog 53 #[.pointer (some ⟨h, 0, none⟩)] w fun e w' => ∃ x : Nat, e = .returned (.int .u64 (x : Int)) ∧ IsFrom N S 0 x ∧ Below w.heap.size w w' := by
  have FR := Lib.hid (from_any B h N free S M 0 w H hN hS hT)
  clear H hT
  go_enter Tryz.func53, Tryz.ntmps53
  go_wp2_with fail
  refine FR.out.mono ?_
  rintro e w1 ⟨x, rfl, hx, hg⟩
  have HX := Lib.hid hx; have HG := Lib.hid hg
  clear hx hg
  go_wp2_with fail
  exact bodyPost_ret (v := .int .u64 (x : Int)) (by simp [results, Tryz.results53, go_sem]) rfl ⟨x, rfl, HX.out, HG.out⟩
set_option maxRecDepth 100000 in
theorem after_any (B h N free a : Nat) (S : Nat → Bool) (M : Nat → Nat) (w : World) (H : HeapAt w B h N free S M) (hN : N ≤ 16777216) (hS : S 0 = false) (ha : S a = true) (haN : a < N) (hT : TabAt 0 Lib.deBruijn64tab w) :
    Calls Tryz.prog 54 #[.pointer (some ⟨h, 0, none⟩), .int .u64 (a * 2 : Int)] w fun e w' => ∃ x : Nat, e = .returned (.int .u64 (x : Int)) ∧ IsFrom N S (a + 1 : Int) x ∧ Below w.heap.size w w' := by
  have ha0 : a ≠ 0 := fun e => by subst e; rw [hS] at ha; cases ha
  have AT := hat_yes B h N free a S M w H (by omega) (by omega)
  rw [ha] at AT
  have ATH := Lib.hid AT
  have FR := Lib.hid (fun W (hW : Below w.heap.size w W) => from_any B h N free S M (a + 1 : Int) W (H.later hW) hN hS (tab_later hT hW))
  clear H hT AT ha
  go_enter Tryz.func54, Tryz.ntmps54
  go_wp2_with fail
  refine ATH.out.mono ?_
  rintro e w1 ⟨rfl, hg⟩
  have HG1 := Lib.hid hg
  clear hg
  go_wp2_with fail
  refine (FR.out w1 HG1.out).mono ?_
  rintro e w2 ⟨x, rfl, hx, hg⟩
  have HX := Lib.hid hx; have HG := Lib.hid (HG1.out.trans (hg.mono HG1.out.size))
  clear hx hg
  go_wp2_with fail
  exact bodyPost_ret (v := .int .u64 (x : Int)) (by simp [results, Tryz.results54, go_sem]) rfl ⟨x, rfl, HX.out, HG.out⟩
end Go.Proofs.YtibopjjicfiimaaGreatDoor
