/- Bytes that are no image are not read. -/
import Derived.Test.YtaillinlbbhdkaaDoorImgC
namespace Go.Proofs.YtaillinlbbhdkaaDoor
open Go.RowKit
set_option linter.unusedVariables false
set_option maxRecDepth 100000 in
theorem decode_bad (v : Value) (L : List UInt8) (k : Nat) (w : World) (hv : BytesAt w v L) (hl : L.length = 36 + 8 * k) (hk : k ≤ 1000) (hbad : ¬ Fits L) :
    Calls Tryd.prog 9 #[v, .int .i64 400] w fun e w' => ∃ c : Int, e = .returned (.tuple #[.pointer none, .int .u64 0, .int .i64 c]) ∧ c ≠ 0 ∧ Below w.heap.size w w' := by
  have NW := Lib.hid (new_yes 400 (by omega) (by omega) w)
  have HV := Lib.hid hv
  have CK := Lib.hid (fun W (hW : Below w.heap.size w W) => check_bad v L k W (hv.later hW) hl hk hbad)
  obtain ⟨a, cap, rfl, l1, l2, -⟩ := hv
  rw [hl] at CK ⊢
  rw [hl] at l1
  unfold maxLen at l2
  clear HV hbad hl
  go_enter Tryd.func9, Tryd.ntmps9
  go_wp2_with fail
  refine NW.out.mono ?_
  rintro e w1 ⟨h, rfl, -, hg1⟩
  have CK1 := Lib.hid (CK.out w1 hg1)
  have HG1 := Lib.hid hg1
  clear hg1 CK
  go_wp2_with fail
  refine CK1.out.mono ?_
  rintro e w2 ⟨c, rfl, hc, hg2⟩
  have HG2 := Lib.hid (HG1.out.trans (hg2.mono HG1.out.size))
  have HC := Lib.hid hc
  have q1 : (c != 0) = true := by rw [bne_iff_ne]; exact hc
  have q2 : (c == 0) = false := by rw [beq_eq_false_iff_ne]; exact hc
  clear hg2
  go_wp2_with fail
  exact bodyPost_ret (v := .tuple #[.pointer none, .int .u64 0, .int .i64 c]) (by simp [results, Tryd.results9, go_sem]) rfl ⟨c, rfl, HC.out, HG2.out.trans ((Below.refl _ w2).alloc HG2.out.size _)⟩
end Go.Proofs.YtaillinlbbhdkaaDoor
