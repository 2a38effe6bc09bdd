/- The tables that lie laid when a call begins: what a walk reads; a world that has them. -/
import Derived.Test.YtgmkoaompokfhaaDoorRows
import Derived.ProofKit
import Derived.LaidLaws
import Derived.Handed
import Derived.Lib.LaidTab
import Derived.Deep.DeepLaidRun
import Derived.Lib.ItoaMem
namespace Go.Proofs.YtgmkoaompokfhaaDoor
open Go.ChangeShapes Go.WideShapes Go.ChangeAt Go.RowKit
theorem laidMet_tail {P : Program} {x : String × DataW Unit} {l : List (String × DataW Unit)} {W : World} (h : laidMet P (x :: l) W) : laidMet P l W := by
  obtain ⟨name, d⟩ := x
  obtain ⟨ps, ⟨g', t', cs, fuel, p, q, hg', ht', hvar, hd, hq, hps⟩, hn, hm⟩ := h
  subst hps
  exact ⟨q, hq, (List.nodup_append.1 hn).2.1, fun b off hb => hm b off (List.mem_append_right _ hb)⟩
theorem powName : Tryd.prog.globalNamed "internal/strconv.uint64pow10" = some 2 := by kernel_rfl
theorem pow_is : (Rows.laid_internal_strconv_uint64pow10 : DataW Unit) = Lib.tabData .u64 Lib.pow10Tab := by kernel_rfl
theorem tab_of_laid {W : World} (h : laidMet Tryd.prog Rows.foundlingNumbersRow.laid W) : Lib.TabIs Tryd.prog W "internal/strconv.uint64pow10" .u64 Lib.pow10Tab := by
  have h2 := laidMet_tail (laidMet_tail h)
  rw [show (("internal/strconv.uint64pow10", (Rows.laid_internal_strconv_uint64pow10 : DataW Unit))) = ("internal/strconv.uint64pow10", Lib.tabData .u64 Lib.pow10Tab) by rw [pow_is]] at h2
  exact Lib.tabIs_of_head powName (by kernel_rfl) Tryd.underlying108 Tryd.underlying27 (by kernel_rfl) (by kernel_rfl) h2
/-- a table's cells, one behind the other -/
def flatD : Nat → DataW Unit → List Value
  | 0, _ => []
  | _ + 1, .lit (.int k z) => [.int k z]
  | n + 1, .agg ps => ps.flatMap (flatD n)
  | _, _ => []
noncomputable def low : Nat := (World.holding Tryd.prog default ⟨#[], #[], []⟩).heap.size
def lay1 (h : Array Obj) (g : Nat) (cs : Array Value) : Array Obj := h.modify g fun
  | .cells _ t frozen => .cells cs t frozen
  | o => o
noncomputable def laidWorld (os : Os) : World :=
  let w0 := World.holding Tryd.prog os ⟨#[.cells #[.string ⟨#[118, 97, 108, 117, 101, 32, 111, 117, 116, 32, 111, 102, 32, 114, 97, 110, 103, 101]⟩] 122, .cells #[.string ⟨#[105, 110, 118, 97, 108, 105, 100, 32, 115, 121, 110, 116, 97, 120]⟩] 122], #[], []⟩
  { w0 with heap := lay1 (lay1 (lay1 (lay1 (lay1 (lay1 (lay1 w0.heap 0 #[.iface 120 (.pointer (some ⟨low + 1, 0, none⟩))]) 1 #[.iface 120 (.pointer (some ⟨low, 0, none⟩))])
      2 (flatD 4 Rows.laid_internal_strconv_uint64pow10).toArray) 3 (flatD 4 Rows.laid_unicode_utf8_first).toArray) 4 (flatD 4 Rows.laid_unicode_utf8_acceptRanges).toArray)
      6 (flatD 4 Rows.laid_math_bits_deBruijn32tab).toArray) 7 (flatD 4 Rows.laid_math_bits_deBruijn64tab).toArray }
theorem laid_met (os : Os) (args : Array Value) : laidMet Tryd.prog Rows.foundlingNumbersRow.laid ((laidWorld os).forCall (fun _ _ => 0) ⟨#[], args, []⟩).memory :=
  laidMet_of_run3 8 (by kernel_rfl) (by kernel_rfl) (by kernel_rfl)
end Go.Proofs.YtgmkoaompokfhaaDoor
