/- What is encoded is decoded, in plain Lean; rows of instructions of the call's own. -/
import Derived.Test.YtnajgpefmknmpaaDoorCodeAwake
import Derived.Test.YtnajgpefmknmpaaDoorCodeLaid
namespace Go.Proofs.YtnajgpefmknmpaaDoor
open Go.RowKit
set_option linter.unusedVariables false
theorem dec_enc (pre post : List UInt8) (x : Ins) (h : encOk x = true) : decI (pre ++ (encB x ++ post)) (pre.length : Nat) = (x, ((pre.length + (encB x).length : Nat) : Int), 0) := by
  obtain ⟨xo, xa, xb⟩ := x
  unfold encOk at h
  simp only [Bool.and_eq_true, decide_eq_true_eq] at h
  obtain ⟨⟨h0, h1⟩, h2, h3⟩ := h
  obtain ⟨q, rfl⟩ := Int.eq_ofNat_of_zero_le h0
  have hq : q < 20 := by omega
  obtain ⟨f1, f2, f3⟩ := fm_all (q : Int)
  have hget : (pre ++ (encB ⟨(q : Int), xa, xb⟩ ++ post)).getD pre.length 0 = UInt8.ofNat q := by
    rw [List.getD_eq_getElem?_getD, List.getElem?_append_right (Nat.le_refl _), Nat.sub_self]
    unfold encB
    simp
  have hc : ((pre ++ (encB ⟨(q : Int), xa, xb⟩ ++ post)).getD pre.length 0).toNat = q := by rw [hget]; simp; omega
  have hlen : (encB ⟨(q : Int), xa, xb⟩).length = 1 + (fmOf (q : Int)).a + (fmOf (q : Int)).b := encB_len _
  have hl : (pre ++ (encB ⟨(q : Int), xa, xb⟩ ++ post)).length = pre.length + (1 + (fmOf (q : Int)).a + (fmOf (q : Int)).b) + post.length := by
    rw [List.length_append, List.length_append, hlen]; omega
  have hd1 : (pre ++ (encB ⟨(q : Int), xa, xb⟩ ++ post)).drop (pre.length + 1) = putZ xa (fmOf (q : Int)).a ++ (putZ xb (fmOf (q : Int)).b ++ post) := by
    rw [List.drop_append, List.drop_eq_nil_of_le (by omega), List.nil_append, show pre.length + 1 - pre.length = 1 by omega]
    unfold encB
    simp
  have hd2 : (pre ++ (encB ⟨(q : Int), xa, xb⟩ ++ post)).drop (pre.length + 1 + (fmOf (q : Int)).a) = putZ xb (fmOf (q : Int)).b ++ post := by
    rw [← List.drop_drop, hd1, List.drop_append, List.drop_eq_nil_of_le (by rw [putZ_length]; omega), List.nil_append, putZ_length, Nat.sub_self, List.drop_zero]
  rw [dec_yes (by omega) (by rw [hc]; exact hq) (by rw [hc, hl]; omega)]
  rw [hc, hd1, hd2]
  have t1 : (putZ xa (fmOf (q : Int)).a ++ (putZ xb (fmOf (q : Int)).b ++ post)).take (fmOf (q : Int)).a = putZ xa (fmOf (q : Int)).a := by
    rw [List.take_append_of_le_length (by rw [putZ_length]; omega), List.take_of_length_le (by rw [putZ_length]; omega)]
  have t2 : (putZ xb (fmOf (q : Int)).b ++ post).take (fmOf (q : Int)).b = putZ xb (fmOf (q : Int)).b := by
    rw [List.take_append_of_le_length (by rw [putZ_length]; omega), List.take_of_length_le (by rw [putZ_length]; omega)]
  rw [t1, t2, get_put f1 f3 h2, get_put f2 (fun _ => rfl) h3, hlen]
  simp only [Prod.mk.injEq, true_and, and_true]
  omega
theorem encAll_split (L : List Ins) (k : Nat) (h : k < L.length) : encAll L = encAll (L.take k) ++ (encB L[k] ++ encAll (L.drop (k + 1))) := by
  conv => lhs; rw [← List.take_append_drop k L, List.drop_eq_getElem_cons h]
  unfold encAll
  rw [List.flatMap_append, List.flatMap_cons]
/-- a row of instructions of the call's own -/
def OwnsIn (w : World) (B : Nat) (v : Value) (L : List Ins) : Prop := w.ownsRow B 27 3 v L.length (insL L)
theorem ownsIn_push {w : World} {B : Nat} {v : Value} {L : List Ins} {x : Ins} (h : w.ownsRow B 27 3 v (L.length + 1) (insL L ++ insC x)) : OwnsIn w B v (L ++ [x]) := by
  unfold OwnsIn
  have e : insL (L ++ [x]) = insL L ++ insC x := by unfold insL; rw [List.flatMap_append]; simp
  rw [List.length_append, e]
  exact h
theorem insAt_of_owns {w : World} {B : Nat} {v : Value} {L : List Ins} (h : OwnsIn w B v L) (hok : ∀ x ∈ L, okI x) : InsAt w v L := by
  rcases h.2 with ⟨hv, h0⟩ | ⟨g, cap, cur, hv, hB, hg, hn, hm, hs, ht⟩
  · have hL : L = [] := List.length_eq_zero_iff.1 h0
    subst hL
    exact ⟨none, 0, hv, Nat.le_refl _, by unfold maxLen; omega, Or.inl rfl, hok⟩
  · refine ⟨_, cap, hv, hn, hm, Or.inr ⟨g, 0, rfl, fun j hj => ?_⟩, hok⟩
    have e : w.cell? ⟨g, 0 + j, none⟩ = cur[j]? := by simp [World.cell?, hg]
    rw [insL_length] at hj
    rw [e, ← ht, List.getElem?_take, if_pos (by omega)]
    simp
theorem insInfo : (Tryd.prog.info? 27).map (fun i => (i.zero, i.size, i.bytes)) = some (some (.agg #[.int .i64 0, .int .i64 0, .int .i64 0]), 3, 24) := by kernel_rfl
theorem EncPost.f {L : List Ins} {w w' : World} {e : Ending} (h : EncPost L w e w') (hf : L.all encOk = false) : e = .returned (.tuple #[.slice none 0 0, .int .i64 1]) ∧ Below w.heap.size w w' := by
  obtain ⟨v, rfl, -, h2, h3⟩ := h
  rw [h2 hf, hf]; exact ⟨rfl, h3⟩
theorem EncPost.t {L : List Ins} {w w' : World} {e : Ending} (h : EncPost L w e w') (ht : L.all encOk = true) : ∃ v, e = .returned (.tuple #[v, .int .i64 0]) ∧ OwnsB w' w.heap.size v (encAll L) ∧ Below w.heap.size w w' := by
  obtain ⟨v, rfl, h1, -, h3⟩ := h
  rw [ht]; exact ⟨v, rfl, h1 ht, h3⟩
theorem REncPost.f {L : List Ins} {w w' : World} {e : Ending} (h : REncPost L w e w') (hf : L.all encOk = false) : e = .returned (.tuple #[.slice none 0 0, .bool false]) ∧ Below w.heap.size w w' := by
  obtain ⟨v, rfl, -, h2, h3⟩ := h
  rw [h2 hf, hf]; exact ⟨rfl, h3⟩
theorem REncPost.t {L : List Ins} {w w' : World} {e : Ending} (h : REncPost L w e w') (ht : L.all encOk = true) : ∃ v, e = .returned (.tuple #[v, .bool true]) ∧ OwnsB w' w.heap.size v (encAll L) ∧ Below w.heap.size w w' := by
  obtain ⟨v, rfl, h1, -, h3⟩ := h
  rw [ht]; exact ⟨v, rfl, h1 ht, h3⟩
end Go.Proofs.YtnajgpefmknmpaaDoor
