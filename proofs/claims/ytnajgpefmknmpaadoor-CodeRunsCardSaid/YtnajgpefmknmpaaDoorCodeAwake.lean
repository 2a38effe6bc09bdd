/- What every law of the layer begins with. -/
import Derived.Test.YtnajgpefmknmpaaDoorCodeU
import Derived.Test.YtnajgpefmknmpaaDoorChkD
namespace Go.Proofs.YtnajgpefmknmpaaDoor
open Go.RowKit Go.Maps
set_option linter.unusedVariables false
theorem text_law : textM [4, 5, 18] = ([48, 32, 80, 117, 115, 104, 83, 109, 97, 108, 108, 32, 53, 10, 50, 32, 82, 101, 116, 117, 114, 110, 10], 0) := by
  kernel_rfl
theorem enc_law : ([⟨4, 5, 0⟩, ⟨18, 0, 0⟩] : List Ins).all encOk = true ∧ encAll [⟨4, 5, 0⟩, ⟨18, 0, 0⟩] = [4, 5, 18] := by
  constructor <;> kernel_rfl
theorem insAt_two (w : World) : InsAt (w.alloc (.cells #[.int .i64 4, .int .i64 5, .int .i64 0, .int .i64 18, .int .i64 0, .int .i64 0] 27)) (.slice (some ⟨w.heap.size, 0, none⟩) 2 2) [⟨4, 5, 0⟩, ⟨18, 0, 0⟩] :=
  ⟨_, 2, rfl, Nat.le_refl _, by unfold maxLen; omega, Or.inr ⟨w.heap.size, 0, rfl, fun j hj => by
    rw [Nat.zero_add, cell_of_row _ _ j _ _ _ (heap_alloc_new w _)]; simp [insL, insC]⟩, fun x hx => by
      simp at hx
      rcases hx with rfl | rfl <;> exact ⟨⟨by decide, by decide⟩, ⟨by decide, by decide⟩, ⟨by decide, by decide⟩⟩⟩
set_option maxRecDepth 100000 in
set_option maxHeartbeats 1000000 in
theorem awake_any (w : World) (hT : Lib.TabIs Tryd.prog w "internal/strconv.uint64pow10" .u64 Lib.pow10Tab) :
    Calls Tryd.prog 7 #[] w fun e w' => e = .returned (.bool true) ∧ Below w.heap.size w w' := by
  have HT := Lib.hid hT
  clear hT
  have I := Lib.hid (insAt_two w)
  go_enter Tryd.func7, Tryd.ntmps7
  go_wp2_with fail
  have g1 : Below w.heap.size w (w.alloc (.cells #[.int .i64 4, .int .i64 5, .int .i64 0, .int .i64 18, .int .i64 0, .int .i64 0] 27)) := (Below.refl _ _).alloc (Nat.le_refl _) _
  have E := Lib.hid (encode_any _ _ _ I.out (by decide))
  generalize w.alloc (.cells #[.int .i64 4, .int .i64 5, .int .i64 0, .int .i64 18, .int .i64 0, .int .i64 0] 27) = w1 at *
  have G1 := Lib.hid g1; clear g1
  refine E.out.mono ?_
  rintro en w2 ⟨v2, rfl, ho, -, hg2⟩
  have ho2 := ho enc_law.1
  rw [enc_law.2] at ho2
  rw [enc_law.1]
  obtain ⟨a, cap, rfl⟩ := own_shape ho2
  have hb2 : BytesAt w2 (.slice a 3 cap) [4, 5, 18] := bytes_of_owns ho2
  have G2 := Lib.hid (G1.out.trans (hg2.mono G1.out.size))
  have C := Lib.hid (check_law _ w2 hb2)
  have T := Lib.hid (fun W (hW : Below w2.heap.size w2 W) => text_any (.slice a 3 cap) [4, 5, 18] W (hb2.later hW) (by decide) (tabis_later (tabis_later HT.out G2.out) hW))
  clear ho ho2 hg2 hb2
  go_wp2_with fail
  refine C.out.mono ?_
  rintro en w3 ⟨rfl, hg3⟩
  have G3 := Lib.hid hg3; clear hg3
  go_wp2_with fail
  refine (T.out _ G3.out).mono ?_
  rintro en w4 ⟨rfl, hg4⟩
  rw [text_law]
  have G4 := Lib.hid (G2.out.trans ((G3.out.trans (hg4.mono G3.out.size)).mono G2.out.size)); clear hg4
  go_wp2_with fail
  go_ret
  exact ⟨rfl, G4.out⟩
set_option maxRecDepth 100000 in
theorem own_any (x : Ins) (w : World) : Calls Tryd.prog 8 #[.agg #[.int .i64 x.op, .int .i64 x.a, .int .i64 x.b]] w fun e w' => e = .returned (.agg #[.int .i64 x.op, .int .i64 x.a, .int .i64 x.b]) ∧ Below w.heap.size w w' := by
  go_enter Tryd.func8, Tryd.ntmps8
  go_wp2_with fail
  exact bodyPost_ret (v := .agg #[.int .i64 x.op, .int .i64 x.a, .int .i64 x.b]) (by simp [results, Tryd.results8, go_sem]) rfl ⟨rfl, by repeat (first | with_reducible exact Below.refl _ _ | ((with_reducible refine Below.setCell ?_ ?_ _); rotate_left; focus (first | (simp; done) | (simp; omega) | omega)) | ((with_reducible refine Below.alloc ?_ ?_ _); rotate_left; focus (first | (simp; done) | (simp; omega) | omega)) | (with_reducible refine Below.drew ?_))⟩
end Go.Proofs.YtnajgpefmknmpaaDoor
