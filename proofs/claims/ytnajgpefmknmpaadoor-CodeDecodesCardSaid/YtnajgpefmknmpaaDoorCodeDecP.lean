/- What is decoded is encoded again as it was, in plain Lean. -/
import Derived.Test.YtnajgpefmknmpaaDoorCodeEncP
namespace Go.Proofs.YtnajgpefmknmpaaDoor
open Go.RowKit
set_option linter.unusedVariables false
theorem u8_ext {a b : UInt8} (h : a.toNat = b.toNat) : a = b := UInt8.toNat_inj.1 h
theorem put_get (l : List UInt8) (sg : Bool) (h : l.length ≤ 2) (hs : l.length = 0 → sg = false) : fitsZ (getZ l sg) l.length sg = true ∧ putZ (getZ l sg) l.length = l := by
  match l, h, hs with
  | [], _, hs =>
    obtain rfl := hs rfl
    exact ⟨by decide, rfl⟩
  | [c], _, _ =>
    have hc := c.toNat_lt
    have b0 := byteZ_nat (getZ [c] sg) 0
    rw [Int.pow_zero, Int.ediv_one] at b0
    rw [show [c].length = 1 from rfl, put1]
    cases sg
    · have e : getZ [c] false = c.toNat := by unfold getZ getN getN; simp
      rw [e] at b0 ⊢
      exact ⟨fits_u1.2 (by omega), by rw [List.cons.injEq]; exact ⟨u8_ext (by rw [b0]; omega), rfl⟩⟩
    · have e : getZ [c] true = if 128 ≤ c.toNat then (c.toNat : Int) - 256 else c.toNat := by
        unfold getZ getN getN
        simp only [Bool.true_and, List.length_singleton, decide_eq_true_eq]
        split <;> split <;> omega
      refine ⟨fits_s1.2 (by rw [e]; split <;> omega), ?_⟩
      rw [List.cons.injEq]
      exact ⟨u8_ext (by rw [b0, e]; split <;> omega), rfl⟩
  | [c, d], _, _ =>
    have hc := c.toNat_lt
    have hd := d.toNat_lt
    have b0 := byteZ_nat (getZ [c, d] sg) 0
    have b1 := byteZ_nat (getZ [c, d] sg) 1
    rw [Int.pow_zero, Int.ediv_one] at b0
    rw [show ((256 : Int) ^ 1) = 256 from rfl] at b1
    rw [show [c, d].length = 2 from rfl, put2']
    cases sg
    · have e : getZ [c, d] false = (c.toNat + 256 * d.toNat : Nat) := by unfold getZ getN getN getN; simp
      rw [e] at b0 b1 ⊢
      refine ⟨fits_u2.2 (by omega), ?_⟩
      rw [List.cons.injEq, List.cons.injEq]
      exact ⟨u8_ext (by rw [b0]; omega), u8_ext (by rw [b1]; omega), rfl⟩
    · have e : getZ [c, d] true = if 32768 ≤ c.toNat + 256 * d.toNat then ((c.toNat + 256 * d.toNat : Nat) : Int) - 65536 else (c.toNat + 256 * d.toNat : Nat) := by
        unfold getZ getN getN getN
        simp only [Bool.true_and, List.length_cons, List.length_nil, decide_eq_true_eq]
        split <;> split <;> omega
      refine ⟨fits_s2.2 (by rw [e]; split <;> omega), ?_⟩
      rw [List.cons.injEq, List.cons.injEq]
      exact ⟨u8_ext (by rw [b0, e]; split <;> omega), u8_ext (by rw [b1, e]; split <;> omega), rfl⟩
/-- what is read anywhere may be encoded, and is what stood there -/
theorem enc_dec {l : List UInt8} {k : Nat} (h : k < l.length) (he : (decI l k).2.2 = 0) :
    ∃ n : Nat, (decI l k).2.1 = ((k + n : Nat) : Int) ∧ k + n ≤ l.length ∧ 1 ≤ n ∧ encOk (decI l k).1 = true ∧ encB (decI l k).1 = (l.drop k).take n := by
  obtain ⟨c, hc, h1, h2, h3, h4, h5, h6⟩ := dec_ok h he
  obtain ⟨f1, f2, f3⟩ := fm_all (c : Int)
  generalize (decI l k).2.1 = r at *
  generalize (decI l k).1 = x at *
  obtain ⟨xo, xa, xb⟩ := x
  simp only at h2 h5 h6
  subst h2 h5 h6 h3
  have la : ((l.drop (k + 1)).take (fmOf c).a).length = (fmOf c).a := by rw [List.length_take, List.length_drop]; omega
  have lb : ((l.drop (k + 1 + (fmOf c).a)).take (fmOf c).b).length = (fmOf c).b := by rw [List.length_take, List.length_drop]; omega
  have pa := put_get ((l.drop (k + 1)).take (fmOf c).a) (fmOf c).sg (by omega) (by rw [la]; exact f3)
  have pb := put_get ((l.drop (k + 1 + (fmOf c).a)).take (fmOf c).b) false (by omega) (fun _ => rfl)
  rw [la] at pa
  rw [lb] at pb
  have hg : l.getD k 0 = l[k] := by rw [List.getD_eq_getElem?_getD, List.getElem?_eq_getElem h]; rfl
  refine ⟨1 + (fmOf c).a + (fmOf c).b, by omega, by omega, by omega, ?_, ?_⟩
  · unfold encOk
    simp only [Bool.and_eq_true, decide_eq_true_eq]
    exact ⟨⟨by omega, by omega⟩, pa.1, pb.1⟩
  · unfold encB
    simp only
    rw [pa.2, pb.2, List.drop_eq_getElem_cons h, show 1 + (fmOf (c : Int)).a + (fmOf (c : Int)).b = ((fmOf (c : Int)).a + (fmOf (c : Int)).b) + 1 by omega, List.take_succ_cons, List.take_add, List.drop_drop, Int.toNat_natCast]
    congr 1
    rw [← hg, ← h1]; simp
end Go.Proofs.YtnajgpefmknmpaaDoor
