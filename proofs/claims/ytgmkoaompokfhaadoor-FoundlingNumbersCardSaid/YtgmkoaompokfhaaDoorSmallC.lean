/- A number's text, and what it is read as. -/
import Derived.Test.YtgmkoaompokfhaaDoorSmallB
import Derived.Lib.ItoaLen
import Derived.Lib.SmallJoins
namespace Go.Proofs.YtgmkoaompokfhaaDoor
open Go.RowKit Go.Sort
set_option linter.unusedVariables false
theorem below_grow (w : World) (k : Nat) (os : Array Obj) : Below w.heap.size w (grow (w.drewN k) os) := by
  refine ⟨rfl, rfl, rfl, ?_, fun q hq => ?_⟩
  · show w.heap.size ≤ (w.heap ++ os).size
    simp
  · show (w.heap ++ os)[q]? = w.heap[q]?
    rw [Array.getElem?_append_left hq]
theorem tabis_later {w w' : World} {name : String} {k : IntKind} {zs : List Int} (h : Lib.TabIs Tryd.prog w name k zs) (hb : Below w.heap.size w w') : Lib.TabIs Tryd.prog w' name k zs := by
  unfold Lib.TabIs World.var? at h ⊢
  cases hg : Tryd.prog.globalNamed name with
  | none => simp [hg] at h
  | some g =>
    simp only [hg, Option.bind_some] at h ⊢
    have hlt : g < w.heap.size := by
      rcases Nat.lt_or_ge g w.heap.size with h' | h'
      · exact h'
      · rw [Array.getElem?_eq_none h'] at h; simp at h
    rw [hb.block g hlt]
    exact h
set_option maxRecDepth 100000 in
theorem text_any (n : Int) (h0 : isNum n) (w : World) (hT : Lib.TabIs Tryd.prog w "internal/strconv.uint64pow10" .u64 Lib.pow10Tab) :
    Calls Tryd.prog 6 #[.int .i64 n] w fun e w' => e = .returned (.string ⟨(Lib.itoa n).toArray⟩) ∧ Below w.heap.size w w' := by
  obtain ⟨a, b⟩ := h0
  have FI := Lib.hid (Tryd.strconv_FormatInt_10 n (by omega) (by omega) w hT)
  clear hT
  generalize (⟨(Lib.itoa n).toArray⟩ : ByteArray) = s at *
  go_enter Tryd.func6, Tryd.ntmps6
  go_wp2_with fail
  refine FI.out.mono ?_
  rintro e w1 ⟨rfl, k, os, rfl⟩
  go_wp2_with fail
  exact bodyPost_ret (v := .string s) (by simp [results, Tryd.results6, go_sem]) rfl ⟨rfl, below_grow w k os⟩
theorem trimp_itoa (n : Int) : Lib.trimPrefix (Lib.itoa n) [45] = Lib.decDigits n.natAbs := by
  by_cases hn : n < 0
  · obtain ⟨m, rfl⟩ : ∃ m : Nat, n = -(m : Int) := ⟨n.natAbs, by omega⟩
    rw [Lib.itoa_neg m (by omega), show (-(m : Int)).natAbs = m by omega]
    unfold Lib.trimPrefix Lib.hasPrefix
    rw [if_pos (by simp [List.isPrefixOf])]
    rfl
  · obtain ⟨m, rfl⟩ : ∃ m : Nat, n = (m : Int) := ⟨n.toNat, by omega⟩
    rw [Lib.itoa_nonneg, show ((m : Int)).natAbs = m by omega]
    unfold Lib.trimPrefix Lib.hasPrefix
    cases hd : Lib.decDigits m with
    | nil => exact absurd hd (dec_ne m)
    | cons c r =>
      have hc := dec_digits m c (by rw [hd]; simp)
      unfold dg at hc
      have h45 : (45 : UInt8) ≠ c := fun e => by rw [← e] at hc; exact absurd hc.1 (by decide)
      rw [if_neg (by simp [List.isPrefixOf, h45])]
theorem dec_len (u : Nat) (h : u ≤ 4611686018427387904) : (Lib.decDigits u).length ≤ 21 := by
  have := Lib.itoa_length_le (u : Int) (by omega) (by omega)
  rwa [Lib.itoa_nonneg] at this
set_option maxRecDepth 100000 in
theorem parse_any (n : Int) (h0 : isNum n) (w : World) :
    Calls Tryd.prog 5 #[.string ⟨(Lib.itoa n).toArray⟩] w fun e w' => e = .returned (.tuple #[.int .i64 n, .int .i64 0]) ∧ Below w.heap.size w w' := by
  obtain ⟨a, b⟩ := h0
  have hl := Lib.itoa_length_le n (by omega) (by omega)
  have hs : (⟨(Lib.itoa n).toArray⟩ : ByteArray).size = (Lib.itoa n).length := rfl
  have TP : Calls Tryd.prog 18 #[.string ⟨(Lib.itoa n).toArray⟩, .string ⟨#[45]⟩] w fun e w' => e = .returned (.string ⟨(Lib.decDigits n.natAbs).toArray⟩) ∧ w' = w := by
    have h := Tryd.strings_TrimPrefix ⟨(Lib.itoa n).toArray⟩ ⟨#[45]⟩ w
    rw [show Lib.trimPrefix (⟨(Lib.itoa n).toArray⟩ : ByteArray).data.toList (⟨#[45]⟩ : ByteArray).data.toList = Lib.decDigits n.natAbs from trimp_itoa n] at h
    exact h
  have TR : Calls Tryd.prog 19 #[.string ⟨(Lib.decDigits n.natAbs).toArray⟩, .string ⟨#[48, 49, 50, 51, 52, 53, 54, 55, 56, 57]⟩] w fun e w' => e = .returned (.string ⟨#[]⟩) ∧ Below w.heap.size w w' := by
    have h := Any.strings_Trim_laid Tryd.lays160 (by kernel_rfl) ⟨(Lib.decDigits n.natAbs).toArray⟩ ⟨#[48, 49, 50, 51, 52, 53, 54, 55, 56, 57]⟩ w (by have := dec_len n.natAbs (by omega); show (Lib.decDigits n.natAbs).length ≤ _; omega) (by decide) (ascii_of_all (by decide))
    rw [show Lib.trimS (⟨(Lib.decDigits n.natAbs).toArray⟩ : ByteArray).data.toList (⟨#[48, 49, 50, 51, 52, 53, 54, 55, 56, 57]⟩ : ByteArray).data.toList = [] from trim_dec n.natAbs] at h
    exact h
  have PI := Lib.hid (fun W => Tryd.strconv_ParseInt_10_at64_ok ⟨(Lib.itoa n).toArray⟩ (by rw [hs]; omega) n (parse_itoa n a b) W)
  have hD : (⟨(Lib.decDigits n.natAbs).toArray⟩ : ByteArray).toList.isEmpty = false := by
    rw [Lib.toList_data]
    show (Lib.decDigits n.natAbs).isEmpty = false
    cases h : Lib.decDigits n.natAbs with
    | nil => exact absurd h (dec_ne _)
    | cons _ _ => rfl
  have TPH := Lib.hid TP; have TRH := Lib.hid TR
  clear TP TR hs hl
  generalize (⟨(Lib.itoa n).toArray⟩ : ByteArray) = s at *
  generalize (⟨(Lib.decDigits n.natAbs).toArray⟩ : ByteArray) = D at *
  go_enter Tryd.func5, Tryd.ntmps5
  go_wp2_with fail
  refine TPH.out.mono ?_
  rintro e w1 ⟨rfl, rfl⟩
  go_wp2_with fail
  refine TRH.out.mono ?_
  rintro e w2 ⟨rfl, hg2⟩
  have HG2 := Lib.hid hg2
  clear hg2
  go_wp2_with fail
  refine (PI.out w2).mono ?_
  rintro e w3 ⟨rfl, hw3⟩
  have hb3 : Below w2.heap.size w2 w3 := by
    rcases hw3 with rfl | ⟨t, rfl⟩
    · exact Below.refl _ _
    · exact Go.Joins.below_bytesWorld _ _ _ _ (Nat.le_refl _)
  have HG3 := Lib.hid (HG2.out.trans (hb3.mono HG2.out.size))
  clear hb3 hw3
  go_wp2_with fail
  exact bodyPost_ret (v := .tuple #[.int .i64 n, .int .i64 0]) (by simp [results, Tryd.results5, go_sem]) rfl ⟨rfl, HG3.out⟩
end Go.Proofs.YtgmkoaompokfhaaDoor
