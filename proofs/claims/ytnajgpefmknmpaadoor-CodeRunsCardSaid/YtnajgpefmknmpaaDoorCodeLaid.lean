/- The tables that lie laid when a call begins: what a walk reads; a world that has them; instructions that came in. -/
import Derived.Test.YtnajgpefmknmpaaDoorChkD
import Derived.Test.YtnajgpefmknmpaaDoorRows
import Derived.ProofKit
import Derived.LaidLaws
import Derived.Handed
import Derived.Lib.LaidTab
import Derived.Deep.DeepLaidRun
import Derived.Lib.ItoaMem
import Derived.Deep.Slices
import Derived.Deep.Fields
import Derived.Lib.SmallJoins
import Derived.OpenShut
namespace Go.Proofs.YtnajgpefmknmpaaDoor
open Go.Joins Go.ChangeShapes Go.WideShapes Go.ChangeAt Go.RowKit Go.Deep
set_option linter.unusedVariables false
def laidL : List (String × DataW Unit) := [("math/bits.deBruijn32tab", Rows.laid_math_bits_deBruijn32tab), ("math/bits.deBruijn64tab", Rows.laid_math_bits_deBruijn64tab), ("internal/strconv.uint64pow10", Rows.laid_internal_strconv_uint64pow10)]
theorem laidMet_tail {P : Program} {x : String × DataW Unit} {l : List (String × DataW Unit)} {W : World} (h : laidMet P (x :: l) W) : laidMet P l W := by
  obtain ⟨name, d⟩ := x
  obtain ⟨ps, ⟨g', t', cs, fuel, p, q, hg', ht', hvar, hd, hq, hps⟩, hn, hm⟩ := h
  subst hps
  exact ⟨q, hq, (List.nodup_append.1 hn).2.1, fun b off hb => hm b off (List.mem_append_right _ hb)⟩
theorem powName : Tryd.prog.globalNamed "internal/strconv.uint64pow10" = some 0 := by kernel_rfl
theorem pow_is : (Rows.laid_internal_strconv_uint64pow10 : DataW Unit) = Lib.tabData .u64 Lib.pow10Tab := by kernel_rfl
theorem tab_of_laid {W : World} (h : laidMet Tryd.prog laidL W) : Lib.TabIs Tryd.prog W "internal/strconv.uint64pow10" .u64 Lib.pow10Tab := by
  have h2 := laidMet_tail (laidMet_tail h)
  rw [show (("internal/strconv.uint64pow10", (Rows.laid_internal_strconv_uint64pow10 : DataW Unit))) = ("internal/strconv.uint64pow10", Lib.tabData .u64 Lib.pow10Tab) by rw [pow_is]] at h2
  exact Lib.tabIs_of_head powName (by kernel_rfl) Tryd.underlying113 Tryd.underlying90 (by kernel_rfl) (by kernel_rfl) h2
/-- a table's cells, one behind the other -/
def flatD : Nat → DataW Unit → List Value
  | 0, _ => []
  | _ + 1, .lit (.int k z) => [.int k z]
  | n + 1, .agg ps => ps.flatMap (flatD n)
  | _, _ => []
def lay1 (h : Array Obj) (g : Nat) (cs : Array Value) : Array Obj := h.modify g fun
  | .cells _ t frozen => .cells cs t frozen
  | o => o
noncomputable def laidWorld (os : Os) : World :=
  let w0 := World.holding Tryd.prog os ⟨#[], #[], []⟩
  { w0 with heap := lay1 (lay1 (lay1 w0.heap 0 (flatD 4 Rows.laid_internal_strconv_uint64pow10).toArray)
      2 (flatD 4 Rows.laid_math_bits_deBruijn32tab).toArray) 3 (flatD 4 Rows.laid_math_bits_deBruijn64tab).toArray }
theorem laid_met (os : Os) (args : Array Value) : laidMet Tryd.prog laidL ((laidWorld os).forCall (fun _ _ => 0) ⟨#[], args, []⟩).memory :=
  laidMet_of_run3 8 (by kernel_rfl) (by kernel_rfl) (by kernel_rfl)
theorem cell_plain {w : World} {a : Addr} {k : Nat} {v : Value} (h : w.cell? (a.add k) = some v) : w.cell? ⟨a.block, a.off + k, none⟩ = some v := by
  by_cases hk : k = 0
  · subst hk
    rw [show a.add 0 = a from rfl] at h
    rw [Nat.add_zero]
    rw [← h]
    unfold World.cell? at h ⊢
    split at h
    · rename_i c t fr hc
      simp only [hc]
      cases hs : a.spot with
      | none => rfl
      | some s => rw [hs] at h; simp at h
    · cases h
  · rw [show a.add k = ⟨a.block, a.off + k, none⟩ by unfold Addr.add; rw [if_neg hk]] at h
    exact h
theorem spot_plain {w : World} {a : Addr} {v : Value} (h : w.cell? (a.add 0) = some v) : a = ⟨a.block, a.off, none⟩ := by
  rw [show a.add 0 = a from rfl] at h
  unfold World.cell? at h
  split at h
  · cases hs : a.spot with
    | none => cases a; simp at hs; subst hs; rfl
    | some s => rw [hs] at h; simp at h
  · cases h
theorem ins_fields : ∃ f0 f1 f2 : Field, Tryd.prog.underlying 26 = some (.struct #[f0, f1, f2]) ∧ oneCellFields Tryd.prog #[f0, f1, f2] = true ∧
    f0.type = 3 ∧ f1.type = 3 ∧ f2.type = 3 :=
  ⟨_, _, _, Tryd.underlying26, by kernel_rfl, rfl, rfl, rfl⟩
set_option maxRecDepth 100000 in
theorem open_in {H : Type} {enc : TypeId × Value → H} {w : World} {base : Nat} {spare : Nat → Bool} {held : Bool} {fuel : Nat} {cs : List Value} {x : DataW H × List MemPlace}
    (h : DataW.trod enc Tryd.prog w base spare held fuel 26 cs = some x) : ∃ e : Ins, cs = insC e ∧ okI e := by
  obtain ⟨f0, f1, f2, hs, hone, t0, t1, t2⟩ := ins_fields
  have hC : Tryd.prog.cellsOf 26 = 3 := by kernel_rfl
  obtain ⟨xs, n, -, -, hlc, hlen, hg⟩ := DataW.trod_struct hs h
  match cs, hlc.trans hC with
  | [c0, c1, c2], _ =>
    match xs, hlen with
    | [y0, y1, y2], _ =>
      obtain ⟨o0, k0⟩ := hone_of hone 0 f0 rfl
      rw [t0] at k0
      obtain ⟨o1, k1⟩ := hone_of hone 1 f1 rfl
      rw [t1] at k1
      obtain ⟨o2, k2⟩ := hone_of hone 2 f2 rfl
      rw [t2] at k2
      have g0 := hg 0 f0 rfl
      have g1 := hg 1 f1 rfl
      have g2 := hg 2 f2 rfl
      simp [o0, t0, k0] at g0
      simp [o1, t1, k1] at g1
      simp [o2, t2, k2] at g2
      obtain ⟨a0, e0, _, w0⟩ := DataW.trod_int Tryd.underlying3 g0
      obtain ⟨a1, e1, _, w1⟩ := DataW.trod_int Tryd.underlying3 g1
      obtain ⟨a2, e2, _, w2⟩ := DataW.trod_int Tryd.underlying3 g2
      simp at e0 e1 e2
      subst e0 e1 e2
      have b0 := bounds_i64 w0
      have b1 := bounds_i64 w1
      have b2 := bounds_i64 w2
      exact ⟨⟨a0, a1, a2⟩, rfl, (show I64 a0 from ⟨by omega, by omega⟩), (show I64 a1 from ⟨by omega, by omega⟩), (show I64 a2 from ⟨by omega, by omega⟩)⟩
set_option maxRecDepth 100000 in
theorem open_inss {H : Type} {enc : TypeId × Value → H} {w : World} {base : Nat} {spare : Nat → Bool} {held : Bool} {r : Reach} {b0 : Nat} {v : Value} {d : DataW H} {p : List MemPlace}
    (hv : Value.okWide Tryd.prog w r b0 22 v) (h : DataW.Trod enc Tryd.prog w base spare held 22 v d p) : ∃ L, InsAt w v L := by
  obtain ⟨a, len, cap, rfl⟩ := okWide_slice Tryd.underlying22 hv
  obtain ⟨fuel, hf⟩ := h
  rcases open_slice Tryd.underlying22 hf with ⟨hcs, -⟩ | ⟨a', len', cap', m, n, D, Pl, hcs, hb, hl, hm, hmm, hx, hi⟩
  · simp [Value.cells] at hcs
    obtain ⟨rfl, rfl, rfl⟩ := hcs
    exact ⟨[], none, 0, rfl, Nat.le_refl _, by unfold maxLen; omega, Or.inl rfl, fun x hx => by cases hx⟩
  · simp [Value.cells] at hcs
    obtain ⟨rfl, rfl, rfl⟩ := hcs
    have hC : Tryd.prog.cellsOf 26 = 3 := by kernel_rfl
    rw [hC] at hi
    have hml : len ≤ m := by rw [hmm]; split <;> omega
    have key : ∀ i, ∃ y : Ins, i < len → w.cell? (a'.add (i * 3)) = some (.int .i64 y.op) ∧ w.cell? (a'.add (i * 3 + 1)) = some (.int .i64 y.a) ∧ w.cell? (a'.add (i * 3 + 2)) = some (.int .i64 y.b) ∧ okI y := fun i => by
      by_cases hil : i < len
      · obtain ⟨cs', h1, h2⟩ := hi i (by omega)
        obtain ⟨e, rfl, hok⟩ := open_in h2
        obtain ⟨-, -, hc⟩ := World.cells?_some h1
        have c0 := hc 0 (by omega)
        have c1 := hc 1 (by omega)
        have c2 := hc 2 (by omega)
        rw [Go.Deep.add_add] at c0 c1 c2
        exact ⟨e, fun _ => ⟨c0, c1, c2, hok⟩⟩
      · exact ⟨⟨0, 0, 0⟩, fun h => absurd h hil⟩
    obtain ⟨f, hf'⟩ := Classical.skolem.1 key
    have hes : ((List.range len).map f).length = len := by rw [List.length_map, List.length_range]
    have hget : ∀ k (hk : k < ((List.range len).map f).length), ((List.range len).map f)[k] = f k := fun k hk => by simp
    refine ⟨(List.range len).map f, some a', cap, by rw [hes], by rw [hes]; exact hl, hm, ?_, fun x hx => ?_⟩
    · by_cases h0 : len = 0
      · subst h0; exact Or.inl rfl
      · refine Or.inr ⟨a'.block, a'.off, congrArg some (spot_plain (hf' 0 (by omega)).1), fun j hj => ?_⟩
        rw [insL_length, hes] at hj
        have hk : j / 3 < ((List.range len).map f).length := by rw [hes]; omega
        obtain ⟨g0, g1, g2⟩ := insL_at ((List.range len).map f) (j / 3) hk
        rw [hget _ hk] at g0 g1 g2
        obtain ⟨c0, c1, c2, -⟩ := hf' (j / 3) (by omega)
        have hr : j = j / 3 * 3 ∨ j = j / 3 * 3 + 1 ∨ j = j / 3 * 3 + 2 := by omega
        rcases hr with hr | hr | hr <;> rw [hr]
        · rw [cell_plain c0, g0]
        · rw [cell_plain c1, g1]
        · rw [cell_plain c2, g2]
    · obtain ⟨k, hk, rfl⟩ := List.getElem_of_mem hx
      rw [hget]
      exact (hf' k (by rw [hes] at hk; exact hk)).2.2.2
/-- the first n of a row of instructions -/
theorem sizeIns (W : World) : (sizeOf (Tryd.prog.elem 22)).run Tryd.prog W = .ok 3 W := by kernel_rfl
theorem insL_take (L : List Ins) (n : Nat) (h : n ≤ L.length) : insL (L.take n) = (insL L).take (n * 3) := by
  have e : L = L.take n ++ L.drop n := (List.take_append_drop n L).symm
  have e2 : insL L = insL (L.take n) ++ insL (L.drop n) := by
    conv => lhs; rw [e]
    unfold insL; rw [List.flatMap_append]
  have hl : (insL (L.take n)).length = n * 3 := by rw [insL_length, List.length_take]; omega
  rw [e2, ← hl, List.take_left]
theorem InsAt.head {w : World} {v : Value} {L : List Ins} (h : InsAt w v L) (n : Nat) (hin : n ≤ L.length) :
    ∃ v', InsAt w v' (L.take n) ∧ ∀ W, (Instr.slice 22 v none (some (.int .i64 (n : Int))) none).run Tryd.prog W = .ok v' W := by
  obtain ⟨a, cap, rfl, h1, h2, h3, h4⟩ := h
  have hlen : (L.take n).length = n := by rw [List.length_take]; omega
  refine ⟨sliced a 0 n cap 3, ⟨if cap = 0 then a else a.map (·.add (0 * 3)), cap, ?_, ?_, h2, ?_, fun x hx => h4 x (List.mem_of_mem_take hx)⟩, fun W => ?_⟩
  · unfold sliced; rw [hlen]; rfl
  · rw [hlen]; omega
  · rcases Nat.eq_zero_or_pos n with h0 | h0
    · subst h0; left; rfl
    · rcases h3 with h3 | ⟨b, o, rfl, hc⟩
      · have := insL_length L; rw [h3] at this; simp at this; omega
      · right
        rw [if_neg (by omega)]
        refine ⟨b, o, by simp [Addr.add], fun j hj => ?_⟩
        rw [insL_length, hlen] at hj
        rw [hc j (by rw [insL_length]; omega), insL_take L n hin, List.getElem?_take, if_pos hj]
  · have := run_slice_h (P := Tryd.prog) (w := W) 22 a L.length cap (by kernel_rfl) .i64 (n : Int) (by omega) (by omega)
    rw [this, sizeIns]
    simp only [Result.andThen, Int.toNat_natCast]
end Go.Proofs.YtnajgpefmknmpaaDoor
