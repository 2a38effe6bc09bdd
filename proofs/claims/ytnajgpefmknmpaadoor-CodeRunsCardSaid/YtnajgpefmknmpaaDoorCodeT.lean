/- A line for each instruction, in plain Lean. -/
import Derived.Test.YtnajgpefmknmpaaDoorCodeS
import Derived.Lib.ItoaLen
import Derived.Lib.ItoaMem
import Derived.Lib.LaidTab
namespace Go.Proofs.YtnajgpefmknmpaaDoor
open Go.RowKit
set_option linter.unusedVariables false
/-- the words of a line -/
def wordsL (p : Nat) (x : Ins) : List (List UInt8) :=
  ([Lib.itoa p, (fmOf x.op).name] ++ if 0 < (fmOf x.op).a then [Lib.itoa x.a] else []) ++ if 0 < (fmOf x.op).b then [Lib.itoa x.b] else []
def lineL (p : Nat) (x : Ins) : List UInt8 := Lib.join (wordsL p x) [32] ++ [10]
/-- what stands from a place on, behind acc -/
def textG : Nat → List UInt8 → Nat → List UInt8 → List UInt8 × Int
  | 0, _, _, acc => (acc, 0)
  | n + 1, l, p, acc =>
    if l.length ≤ p then (acc, 0)
    else if (decI l p).2.2 ≠ 0 then ([], (decI l p).2.2)
    else textG n l (decI l p).2.1.toNat (acc ++ lineL p (decI l p).1)
def textM (l : List UInt8) : List UInt8 × Int := textG l.length l 0 []
theorem textG_end {n : Nat} {l : List UInt8} {p : Nat} {acc : List UInt8} (h : l.length ≤ p) : textG n l p acc = (acc, 0) := by
  cases n with
  | zero => rfl
  | succ n => unfold textG; rw [if_pos h]
theorem textG_bad {n : Nat} {l : List UInt8} {p : Nat} {acc : List UInt8} (h : p < l.length) (he : (decI l p).2.2 ≠ 0) : textG (n + 1) l p acc = ([], (decI l p).2.2) := by
  conv => lhs; unfold textG
  rw [if_neg (by omega), if_pos he]
theorem textG_step {n : Nat} {l : List UInt8} {p : Nat} {acc : List UInt8} (h : p < l.length) (he : (decI l p).2.2 = 0) : textG (n + 1) l p acc = textG n l (decI l p).2.1.toNat (acc ++ lineL p (decI l p).1) := by
  conv => lhs; unfold textG
  rw [if_neg (by omega), if_neg (by simp [he])]
/-- what an instruction at a place is, where there is one -/
theorem dec_ok {l : List UInt8} {k : Nat} (h : k < l.length) (he : (decI l k).2.2 = 0) :
    ∃ c : Nat, c < 20 ∧ (l.getD k 0).toNat = c ∧ (decI l k).1.op = c ∧ (decI l k).2.1 = ((k + 1 + (fmOf c).a + (fmOf c).b : Nat) : Int) ∧ k + 1 + (fmOf c).a + (fmOf c).b ≤ l.length ∧
      (decI l k).1.a = getZ ((l.drop (k + 1)).take (fmOf c).a) (fmOf c).sg ∧ (decI l k).1.b = getZ ((l.drop (k + 1 + (fmOf c).a)).take (fmOf c).b) false := by
  by_cases h2 : 20 ≤ (l.getD k 0).toNat
  · rw [dec_form h h2] at he; cases he
  · by_cases h3 : l.length < k + 1 + (fmOf (l.getD k 0).toNat).a + (fmOf (l.getD k 0).toNat).b
    · rw [dec_short h (by omega) h3] at he; cases he
    · rw [dec_yes h (by omega) h3]
      exact ⟨_, by omega, rfl, rfl, by push_cast; rfl, by omega, rfl, rfl⟩
theorem getN_lt : ∀ l : List UInt8, getN l < 256 ^ l.length
  | [] => by decide
  | c :: l => by
    have := getN_lt l
    have hc := c.toNat_lt
    unfold getN
    rw [List.length_cons, Nat.pow_succ]
    omega
theorem getZ_range (l : List UInt8) (sg : Bool) (h : l.length ≤ 2) : -65536 ≤ getZ l sg ∧ getZ l sg < 65536 := by
  have h1 := getN_lt l
  have h2 : 256 ^ l.length ≤ 65536 := by
    obtain h | h | h : l.length = 0 ∨ l.length = 1 ∨ l.length = 2 := by omega
    all_goals (rw [h]; decide)
  have h3 : (2 : Int) ^ (8 * l.length) ≤ 65536 := by
    obtain h | h | h : l.length = 0 ∨ l.length = 1 ∨ l.length = 2 := by omega
    all_goals (rw [h]; decide)
  unfold getZ
  split
  · have h4 : 0 < (2 : Int) ^ (8 * l.length) := Int.pow_pos (by decide)
    omega
  · omega
theorem take_le2 (l : List UInt8) (n : Nat) (h : n ≤ 2) : (l.take n).length ≤ 2 := by rw [List.length_take]; omega
theorem dec_range {l : List UInt8} {k : Nat} (h : k < l.length) (he : (decI l k).2.2 = 0) : -65536 ≤ (decI l k).1.a ∧ (decI l k).1.a < 65536 ∧ -65536 ≤ (decI l k).1.b ∧ (decI l k).1.b < 65536 := by
  obtain ⟨c, hc, h1, h2, h3, h4, h5, h6⟩ := dec_ok h he
  obtain ⟨f1, f2, f3⟩ := fm_all (c : Int)
  rw [h5, h6]
  exact ⟨(getZ_range _ _ (take_le2 _ _ f1)).1, (getZ_range _ _ (take_le2 _ _ f1)).2, (getZ_range _ _ (take_le2 _ _ f2)).1, (getZ_range _ _ (take_le2 _ _ f2)).2⟩
theorem fm_name_len (op : Int) : (fmOf op).name.length ≤ 10 := by
  have hT : ∀ i : Fin 20, (fmT.getD i.val ⟨[], 0, false, 0⟩).name.length ≤ 10 := by decide
  unfold fmOf
  split
  · rcases Nat.lt_or_ge op.toNat 20 with h | h
    · exact hT ⟨op.toNat, h⟩
    · rw [List.getD_eq_getElem?_getD, List.getElem?_eq_none (by show 20 ≤ _; omega)]
      decide
  · decide
theorem lineL_le (p : Nat) (x : Ins) (hp : p ≤ 100000) (ha : -65536 ≤ x.a ∧ x.a < 65536) (hb : -65536 ≤ x.b ∧ x.b < 65536) : (lineL p x).length ≤ 90 := by
  have h1 := Lib.itoa_length_le (p : Int) (by omega) (by omega)
  have h2 := Lib.itoa_length_le x.a (by omega) (by omega)
  have h3 := Lib.itoa_length_le x.b (by omega) (by omega)
  have h4 := fm_name_len x.op
  unfold lineL wordsL
  rw [List.length_append]
  split <;> split
  all_goals
    simp only [List.cons_append, List.nil_append, Lib.join_length, Lib.lens, List.length_cons, List.length_nil, List.map_cons, List.map_nil, List.sum_cons, List.sum_nil]
    omega
theorem itoa_any (n : Int) (h0 : -9223372036854775808 ≤ n) (h1 : n ≤ 9223372036854775807) (w : World) (hT : Lib.TabIs Tryd.prog w "internal/strconv.uint64pow10" .u64 Lib.pow10Tab) :
    Calls Tryd.prog 25 #[.int .i64 n] w fun e w' => e = .returned (.string ⟨(Lib.itoa n).toArray⟩) ∧ Below w.heap.size w w' := by
  refine (Tryd.strconv_Itoa n h0 h1 w hT).mono ?_
  rintro e w' ⟨rfl, k, os, rfl⟩
  refine ⟨rfl, rfl, rfl, rfl, ?_, fun q hq => ?_⟩
  · show w.heap.size ≤ (w.heap ++ os).size
    simp
  · show (w.heap ++ os)[q]? = w.heap[q]?
    rw [Array.getElem?_append_left hq]
theorem tabis_later {w w' : World} {name : String} {k : IntKind} {zs : List Int} (h : Lib.TabIs Tryd.prog w name k zs) (hb : Below w.heap.size w w') : Lib.TabIs Tryd.prog w' name k zs := by
  unfold Lib.TabIs World.var? at h ⊢
  cases hg : Tryd.prog.globalNamed name with
  | none => simp [hg] at h
  | some g =>
    simp only [hg, Option.bind_some] at h ⊢
    have hlt : g < w.heap.size := by
      rcases Nat.lt_or_ge g w.heap.size with h' | h'
      · exact h'
      · rw [Array.getElem?_eq_none h'] at h; simp at h
    rw [hb.block g hlt]
    exact h
theorem strInfo : (Tryd.prog.info? 9).map (fun i => (i.zero, i.size, i.bytes)) = some (some (.string ⟨#[]⟩), 1, 16) := by kernel_rfl
/-- a row of strings of the call's own -/
def OwnsS (w : World) (B : Nat) (v : Value) (ws : List ByteArray) : Prop := w.ownsRow B 9 1 v ws.length (ws.map Value.string)
theorem ownsS_new (w : World) (B : Nat) (hB : B ≤ w.heap.size) (s u : ByteArray) : OwnsS (w.alloc (.cells #[.string s, .string u] 9)) B (.slice (some ⟨w.heap.size, 0, none⟩) 2 2) [s, u] :=
  ⟨rfl, .inr ⟨w.heap.size, 2, #[.string s, .string u], rfl, hB, heap_alloc_new w _, Nat.le_refl _, by unfold maxLen; omega, rfl, rfl⟩⟩
theorem OwnsS.push {w1 : World} {B : Nat} {v' : Value} {ws : List ByteArray} {s : ByteArray} (h : w1.ownsRow B 9 1 v' (ws.length + 1) (ws.map Value.string ++ [.string s])) : OwnsS w1 B v' (ws ++ [s]) := by
  unfold OwnsS
  rw [List.length_append, List.map_append]
  exact h
end Go.Proofs.YtnajgpefmknmpaaDoor
