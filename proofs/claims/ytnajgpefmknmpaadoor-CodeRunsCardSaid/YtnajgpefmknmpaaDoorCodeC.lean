/- A number as bytes: the program's put. -/
import Derived.Test.YtnajgpefmknmpaaDoorCodeK
namespace Go.Proofs.YtnajgpefmknmpaaDoor
open Go.RowKit
set_option linter.unusedVariables false
def cput (l : List UInt8) (x : Int) (n : Nat) (sg : Bool) : List UInt8 := if fitsZ x n sg then l ++ putZ x n else l
set_option maxRecDepth 100000 in
theorem cput_none (v : Value) (l : List UInt8) (x : Int) (sg : Bool) (w : World) (B : Nat) (hB : B ≤ w.heap.size) (h : OwnsB w B v l) (hl : l.length ≤ 100000) (hx : -9223372036854775808 ≤ x ∧ x < 9223372036854775808) :
    Calls Tryd.prog 19 #[v, .int .i64 x, .int .i64 0, .bool sg] w fun e w' => ∃ v', e = .returned (.tuple #[v', .bool (fitsZ x 0 sg)]) ∧ OwnsB w' B v' (cput l x 0 sg) ∧ Kp B w w' := by
  have H := Lib.hid h
  by_cases hx0 : x = 0
  · subst hx0
    have e1 : fitsZ 0 0 sg = true := fits_zero.2 rfl
    have e2 : cput l 0 0 sg = l := by unfold cput; rw [if_pos e1]; simp [putZ]
    rw [e1, e2]; clear e1 e2 hx
    go_enter Tryd.func19, Tryd.ntmps19
    cases sg
    all_goals
      go_wp2_with fail
      go_region
      go_wp2_with fail
      go_loopg [0, 13, 41] 0 (fun g o z i wr => g = 0 ∧ i = .int .i64 0 ∧ o = v ∧ OwnsB wr B v l ∧ Kp B w wr)
      case atStart => exact ⟨rfl, rfl, rfl, owns_later H.out (Below.refl _ _).drew, (Kp.refl _ _).drew⟩
      case round =>
        obtain ⟨-, rfl, rfl, hb, hg⟩ := hrel
        have HBk := Lib.hid hb; have HGk := Lib.hid hg; clear hb hg
        go_wp2_with fail
        exact bodyPost_ret (results_tmp2 Tryd.results19 _ _ _) rfl ⟨_, rfl, HBk.out, HGk.out⟩
  · have e1 : fitsZ x 0 sg = false := by rw [Bool.eq_false_iff]; exact fun e => hx0 (fits_zero.1 e)
    have e2 : cput l x 0 sg = l := by unfold cput; rw [e1]; rfl
    rw [e1, e2]; clear e1 e2
    have hb : x < 0 ∨ 0 < x := by omega
    go_enter Tryd.func19, Tryd.ntmps19
    cases sg
    all_goals
      rcases hb with hb | hb
      all_goals
        go_wp2_with fail
        go_region
        go_wp2_with fail
        all_goals exact bodyPost_ret (results_tmp2 Tryd.results19 _ _ _) rfl ⟨_, rfl, owns_later H.out (Below.refl _ _).drew, (Kp.refl _ _).drew⟩
end Go.Proofs.YtnajgpefmknmpaaDoor
