/- The document's text of a number is the number's digits. -/
import Derived.Test.YtnajgpefmknmpaaDoorCodeT
import Derived.Lib.ItoaNum
namespace Go.Proofs.YtnajgpefmknmpaaDoor
open Go.RowKit
set_option linter.unusedVariables false
set_option maxRecDepth 100000 in
theorem amount_any (n : Int) (h0 : -9223372036854775808 ≤ n) (h1 : n ≤ 9223372036854775807) (w : World) :
    Calls Tryd.prog 35 #[.int .i64 n] w fun e w' => e = .returned (.int .u64 (n.natAbs : Int)) ∧ w' = w := by
  by_cases hn : n < 0
  · have c1 : IntKind.u64.wrap n = n + 18446744073709551616 := by unfold IntKind.wrap; simp [IntKind.signed, IntKind.bits]; omega
    have c2 : IntKind.u64.wrap (-(n + 18446744073709551616)) = -n := by unfold IntKind.wrap; simp [IntKind.signed, IntKind.bits]; omega
    have c3 : (n.natAbs : Int) = -n := by omega
    rw [c3]
    go_enter Tryd.func35, Tryd.ntmps35
    go_wp2_with fail
    go_ret
    exact ⟨rfl, rfl⟩
  · have c1 : IntKind.u64.wrap n = n := by unfold IntKind.wrap; simp [IntKind.signed, IntKind.bits]; omega
    have c3 : (n.natAbs : Int) = n := by omega
    rw [c3]
    go_enter Tryd.func35, Tryd.ntmps35
    go_wp2_with fail
    go_ret
    exact ⟨rfl, rfl⟩
theorem dec_more {i : Nat} (h : 10 ≤ i) : Lib.decDigits i = Lib.decDigits (i / 10) ++ [UInt8.ofNat (48 + i % 10)] := by rw [Lib.decDigits, dif_neg (by omega)]
theorem dec_len : ∀ i : Nat, i < 10 ^ 30 → (Lib.decDigits i).length ≤ 30 := by
  have key : ∀ k i : Nat, i < 10 ^ (k + 1) → (Lib.decDigits i).length ≤ k + 1 := by
    intro k
    induction k with
    | zero => intro i hi; rw [Lib.decDigits_one (by omega)]; simp
    | succ k ih =>
      intro i hi
      by_cases h : i < 10
      · rw [Lib.decDigits_one h]; simp
      · rw [dec_more (by omega), List.length_append, List.length_singleton]
        have := ih (i / 10) (by rw [Nat.pow_succ] at hi; omega)
        omega
  exact fun i hi => key 29 i hi
theorem one_byte (w : World) (x : Nat) (hx : x < 256) : BytesAt (w.alloc (.cells #[.int .u8 (x : Int)] 5)) (.slice (some ⟨w.heap.size, 0, none⟩) 1 1) [UInt8.ofNat x] := by
  refine ⟨_, _, rfl, Nat.le_refl _, by unfold maxLen; omega, Or.inr ⟨w.heap.size, 0, rfl, fun j hj => ?_⟩, fun h => by cases h⟩
  obtain rfl : j = 0 := by simpa [Lib.byteCells] using hj
  rw [cell_of_row _ _ _ _ _ _ (heap_alloc_new w _)]
  simp [Lib.byteCells]; omega
theorem str_append (a l : List UInt8) : ((⟨a.toArray⟩ : ByteArray) ++ ⟨l.toArray⟩) = ⟨(a ++ l).toArray⟩ := by
  apply ByteArray.ext
  simp
set_option maxRecDepth 100000 in
theorem rtext_any (n : Int) (h0 : -9223372036854775808 ≤ n) (h1 : n ≤ 9223372036854775807) (w : World) :
    Calls Tryd.prog 29 #[.int .i64 n] w fun e w' => e = .returned (.string ⟨(Lib.itoa n).toArray⟩) ∧ Below w.heap.size w w' := by
  have AM := Lib.hid (amount_any n h0 h1 w)
  have hu : n.natAbs ≤ 9223372036854775808 := by omega
  have hit : Lib.itoa n = if n < 0 then 45 :: Lib.decDigits n.natAbs else Lib.decDigits n.natAbs := by
    unfold Lib.itoa
    split
    · rfl
    · rw [show n.toNat = n.natAbs by omega]
  have HIT := Lib.hid hit; clear hit
  have hdl := dec_len n.natAbs (by omega)
  go_enter Tryd.func29, Tryd.ntmps29
  go_wp2_with (go_at_call 35; refine AM.out.mono ?_; rintro e w1 ⟨rfl, hw1⟩; obtain rfl := hw1.symm; clear hw1)
  generalize hun : n.natAbs = u at *
  go_loopg [3, 4] u (fun g s3 s4 wr => ∃ (m : Nat) (d : List UInt8), g = m ∧ m ≤ u ∧ s3 = .int .u64 (m : Int) ∧ s4 = .string ⟨d.toArray⟩ ∧ Lib.decDigits u = Lib.decDigits m ++ d ∧ Below w.heap.size w wr)
  case atStart => exact ⟨u, [], rfl, Nat.le_refl _, rfl, rfl, by simp, Below.refl _ _⟩
  case round =>
    obtain ⟨m, d, hg, hmu, rfl, rfl, hd, hB⟩ := hrel
    have HG := Lib.hid hg; have HD := Lib.hid hd; have HB := Lib.hid hB
    clear hg hd hB
    have hdd : d.length ≤ 30 := by have h2 := congrArg List.length HD.out; rw [List.length_append] at h2; omega
    by_cases hm : 10 ≤ m
    · have hcv := run_string_of (one_byte wr (48 + m % 10) (by omega))
      rw [show ((48 + m % 10 : Nat) : Int) = 48 + (m : Int) % 10 by omega] at hcv
      have HM := Lib.hid (dec_more hm)
      generalize UInt8.ofNat (48 + m % 10) = c at *
      have HAP := Lib.hid (str_append [c] d)
      go_wp2_with fail
      go_roundg (m / 10)
      case measure => rw [HG.out]; omega
      case rel => exact ⟨m / 10, _, rfl, by omega, by go_num, congrArg Value.string HAP.out, by rw [HD.out, HM.out, List.append_assoc], by have := HB.out; exact this.alloc this.size _⟩
    · have hcv := run_string_of (one_byte wr (48 + m) (by omega))
      rw [show ((48 + m : Nat) : Int) = 48 + (m : Int) by omega] at hcv
      have hal : [UInt8.ofNat (48 + m)] ++ d = Lib.decDigits u := by rw [HD.out, Lib.decDigits_one (by omega)]
      have hap := str_append [UInt8.ofNat (48 + m)] d
      rw [hal] at hap
      clear hal
      have hap2 := str_append [45] (Lib.decDigits u)
      rw [← hap] at hap2
      generalize UInt8.ofNat (48 + m) = c at *
      have HAP := Lib.hid hap
      have HAP2 := Lib.hid hap2
      clear hap hap2
      have HI := HIT.out
      by_cases hn : n < 0
      · rw [if_pos hn] at HI
        go_wp2_with fail
        go_ret
        exact ⟨by rw [HI]; exact congrArg (fun s => Ending.returned (Value.string s)) HAP2.out, by have := HB.out; exact this.alloc this.size _⟩
      · rw [if_neg hn] at HI
        go_wp2_with fail
        go_ret
        exact ⟨congrArg (fun s => Ending.returned (Value.string s)) HAP.out, by have := HB.out; exact this.alloc this.size _⟩
end Go.Proofs.YtnajgpefmknmpaaDoor
