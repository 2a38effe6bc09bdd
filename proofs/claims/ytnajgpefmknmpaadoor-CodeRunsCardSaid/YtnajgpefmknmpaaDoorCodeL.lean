/- Instructions in memory; what they are as bytes. -/
import Derived.Test.YtnajgpefmknmpaaDoorCodeJ
namespace Go.Proofs.YtnajgpefmknmpaaDoor
open Go.RowKit
set_option linter.unusedVariables false
def encOk (x : Ins) : Bool := decide (0 ≤ x.op) && decide (x.op < 20) && (fitsZ x.a (fmOf x.op).a (fmOf x.op).sg && fitsZ x.b (fmOf x.op).b false)
def encB (x : Ins) : List UInt8 := UInt8.ofNat x.op.toNat :: (putZ x.a (fmOf x.op).a ++ putZ x.b (fmOf x.op).b)
def encAll (L : List Ins) : List UInt8 := L.flatMap encB
theorem encB_len (x : Ins) : (encB x).length = 1 + (fmOf x.op).a + (fmOf x.op).b := by
  unfold encB; rw [List.length_cons, List.length_append, putZ_length, putZ_length]; omega
theorem encB_le (x : Ins) : (encB x).length ≤ 5 := by
  have := fm_all x.op; rw [encB_len]; omega
theorem encAll_le : ∀ L : List Ins, (encAll L).length ≤ 5 * L.length
  | [] => by simp [encAll]
  | x :: L => by
    have := encAll_le L
    have h := encB_le x
    unfold encAll at *
    rw [List.flatMap_cons, List.length_append, List.length_cons]; omega
theorem encAll_snoc (L : List Ins) (k : Nat) (h : k < L.length) : encAll (L.take (k + 1)) = encAll (L.take k) ++ encB L[k] := by
  unfold encAll
  rw [List.take_succ_eq_append_getElem h, List.flatMap_append]; simp
theorem all_snoc (L : List Ins) (k : Nat) (h : k < L.length) : (L.take (k + 1)).all encOk = ((L.take k).all encOk && encOk L[k]) := by
  rw [List.take_succ_eq_append_getElem h, List.all_append]; simp
def insC (x : Ins) : List Value := [.int .i64 x.op, .int .i64 x.a, .int .i64 x.b]
def insL (L : List Ins) : List Value := L.flatMap insC
theorem insL_length : ∀ L : List Ins, (insL L).length = L.length * 3
  | [] => rfl
  | x :: L => by unfold insL; rw [List.flatMap_cons, List.length_append]; have := insL_length L; unfold insL at this; rw [this, List.length_cons]; show 3 + _ = _; omega
theorem insL_at : ∀ (L : List Ins) (k : Nat) (h : k < L.length), (insL L)[k * 3]? = some (.int .i64 (L[k]).op) ∧ (insL L)[k * 3 + 1]? = some (.int .i64 (L[k]).a) ∧ (insL L)[k * 3 + 2]? = some (.int .i64 (L[k]).b)
  | x :: L, 0, _ => ⟨rfl, rfl, rfl⟩
  | x :: L, k + 1, h => by
    have hk : k < L.length := by simpa using h
    obtain ⟨h0, h1, h2⟩ := insL_at L k hk
    have e : insL (x :: L) = insC x ++ insL L := rfl
    have hl : (insC x).length = 3 := rfl
    rw [e]
    refine ⟨?_, ?_, ?_⟩
    · rw [List.getElem?_append_right (by omega), hl, show (k + 1) * 3 - 3 = k * 3 by omega]; simpa using h0
    · rw [List.getElem?_append_right (by omega), hl, show (k + 1) * 3 + 1 - 3 = k * 3 + 1 by omega]; simpa using h1
    · rw [List.getElem?_append_right (by omega), hl, show (k + 1) * 3 + 2 - 3 = k * 3 + 2 by omega]; simpa using h2
/-- a number that an int can hold -/
def I64 (n : Int) : Prop := -9223372036854775808 ≤ n ∧ n < 9223372036854775808
def okI (x : Ins) : Prop := I64 x.op ∧ I64 x.a ∧ I64 x.b
/-- a slice that reads as these instructions -/
def InsAt (w : World) (v : Value) (L : List Ins) : Prop := ∃ a cap, v = .slice a L.length cap ∧ L.length ≤ cap ∧ cap ≤ maxLen ∧ RowAt w a (insL L) ∧ (∀ x ∈ L, okI x)
theorem InsAt.later {w w' : World} {v : Value} {L : List Ins} (h : InsAt w v L) (hb : Below w.heap.size w w') : InsAt w' v L := by
  obtain ⟨a, cap, hv, h1, h2, h3, h4⟩ := h
  exact ⟨a, cap, hv, h1, h2, h3.later hb, h4⟩
/-- the cells of the k-th -/
theorem InsAt.cells {w : World} {v : Value} {L : List Ins} (h : InsAt w v L) (h0 : L ≠ []) :
    ∃ b o cap, v = .slice (some ⟨b, o, none⟩) L.length cap ∧ L.length ≤ cap ∧ b < w.heap.size ∧ (∀ k (hk : k < L.length), okI L[k] ∧ w.cell? ⟨b, o + k * 3, none⟩ = some (.int .i64 (L[k]).op) ∧ w.cell? ⟨b, o + k * 3 + 1, none⟩ = some (.int .i64 (L[k]).a) ∧ w.cell? ⟨b, o + k * 3 + 2, none⟩ = some (.int .i64 (L[k]).b)) := by
  obtain ⟨a, cap, hv, h1, h2, h3, h4⟩ := h
  have hp : 0 < L.length := List.length_pos_iff.2 h0
  rcases h3 with h3 | ⟨b, o, rfl, hc⟩
  · have := insL_length L; rw [h3] at this; simp at this; omega
  · have hall : ∀ k (hk : k < L.length), okI L[k] ∧ w.cell? ⟨b, o + k * 3, none⟩ = some (.int .i64 (L[k]).op) ∧ w.cell? ⟨b, o + k * 3 + 1, none⟩ = some (.int .i64 (L[k]).a) ∧ w.cell? ⟨b, o + k * 3 + 2, none⟩ = some (.int .i64 (L[k]).b) := by
      intro k hk
      obtain ⟨g0, g1, g2⟩ := insL_at L k hk
      have hl := insL_length L
      exact ⟨h4 _ (List.getElem_mem hk), (hc (k * 3) (by omega)).trans g0, (hc (k * 3 + 1) (by omega)).trans g1, (hc (k * 3 + 2) (by omega)).trans g2⟩
    exact ⟨b, o, cap, hv, h1, lt_of_cell (hall 0 hp).2.1, hall⟩
/-- the forms' cells -/
theorem formsC_at (q : Nat) (h : q < 20) : formsC.toArray[q * 4]? = some (.string ⟨(fmOf q).name.toArray⟩) ∧ formsC.toArray[q * 4 + 1]? = some (.int .i64 ((fmOf q).a : Int)) ∧ formsC.toArray[q * 4 + 2]? = some (.bool (fmOf q).sg) ∧ formsC.toArray[q * 4 + 3]? = some (.int .i64 ((fmOf q).b : Int)) := by
  obtain rfl | rfl | rfl | rfl | rfl | rfl | rfl | rfl | rfl | rfl | rfl | rfl | rfl | rfl | rfl | rfl | rfl | rfl | rfl | rfl : q = 0 ∨ q = 1 ∨ q = 2 ∨ q = 3 ∨ q = 4 ∨ q = 5 ∨ q = 6 ∨ q = 7 ∨ q = 8 ∨ q = 9 ∨ q = 10 ∨ q = 11 ∨ q = 12 ∨ q = 13 ∨ q = 14 ∨ q = 15 ∨ q = 16 ∨ q = 17 ∨ q = 18 ∨ q = 19 := by omega
  all_goals exact ⟨rfl, rfl, rfl, rfl⟩
/-- an append to a row of the call's own, as a step of a region that draws -/
theorem step_append_own {P : Program} {ops : Array Oper} {o : Oper} {a : Act} {w : World} {K : Act → World → Prop} {Q : Exit → Act → World → Prop} {E : Prop}
    (hg : o.guard = none) (s x : Operand) (t : TypeId) (hop : o.op = Op.call { callee := Callee.builtin Builtin.append, args := #[s, x], argTypes := #[t, t] })
    (base : Nat) (e : TypeId) (i : TypeInfo) (z : Value) (size bytes : Nat) (ht : P.underlying t = some (.slice e)) (hi : P.info? e = some i) (hz : i.zero = some z)
    (hsize : i.size = size) (hby : i.bytes = bytes) (hzs : z.cells.size = size) (hsz : 0 < size)
    (v : Value) (n : Nat) (xs : List Value) (hs : a.eval s = v) (hown : w.ownsRow base e size v n xs)
    (ad : Addr) (m c : Nat) (news : List Value) (hx : a.eval x = .slice (some ad) m c) (hl : news.length = m * size) (hnews : ∀ j u, news[j]? = some u → w.cell? (ad.add j) = some u) (h1 : ∀ u ∈ news, u.oneCell' = true)
    (h63 : n + m ≤ maxLen) (hbytes : (n + m) * bytes ≤ 140737488355328) (hbase : base ≤ w.heap.size)
    (h : ∀ v' w', w'.ownsRow base e size v' (n + m) (xs ++ news) → w.grownBy w' v.ownBlock → K (a.put o.dst v') w') :
    if Region.wanted o (yielded ops a.tmps) = true then Oper.wp P o a w K Q else E := by
  have hw : Region.wanted o (yielded ops a.tmps) = true := by simp [Region.wanted, hg]
  rw [if_pos hw]
  exact wp_append_own w s x t hop base e i z size bytes ht hi hz hsize hby hzs hsz v n xs hs hown ad m c news hx hl hnews h1 h63 hbytes hbase fun v' w' h2 h3 _ => h v' w' h2 h3
end Go.Proofs.YtnajgpefmknmpaaDoor
