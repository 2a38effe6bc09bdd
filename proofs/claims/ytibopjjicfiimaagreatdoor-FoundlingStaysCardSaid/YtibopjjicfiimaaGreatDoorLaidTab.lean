/- The table that lies laid when a call begins: what a walk reads; a world that has it. -/
import Derived.Test.YtibopjjicfiimaaGreatDoorPackNext
import Derived.Test.YtibopjjicfiimaaGreatDoorRows
import Derived.ProofKit
import Derived.LaidLaws
import Derived.Handed
import Derived.Lib.LaidTab
namespace Go.Proofs.YtibopjjicfiimaaGreatDoor
open Go.ChangeShapes Go.WideShapes Go.ChangeAt Go.RowKit
theorem tab_later {w w' : World} {g : Nat} {tab : List Nat} (h : TabAt g tab w) (hb : Below w.heap.size w w') : TabAt g tab w' := by
  intro j hj
  have hc := h j hj
  rw [hb.cell (p := ⟨g, j, none⟩) (lt_of_cell hc)]
  exact hc
theorem laid_is : (Rows.laid_math_bits_deBruijn64tab : DataW Unit) = Lib.tabData .u8 (Lib.deBruijn64tab.map Int.ofNat) := by kernel_rfl
theorem tabName : Tryz.prog.globalNamed "math/bits.deBruijn64tab" = some 0 := by kernel_rfl
theorem tab_of_laid {W : World} (h : laidMet Tryz.prog [("math/bits.deBruijn64tab", Rows.laid_math_bits_deBruijn64tab)] W) : TabAt 0 Lib.deBruijn64tab W := by
  rw [laid_is] at h
  have hi := Lib.tabIs_of_head tabName (by kernel_rfl) Tryz.underlying174 Tryz.underlying5 (by kernel_rfl) (by kernel_rfl) h
  intro j hj
  have := hi.cell tabName j (by simpa using hj)
  rw [this]
  simp [List.getD, hj]
noncomputable def laidWorld (os : Os) : World :=
  let w0 := World.holding Tryz.prog os ⟨#[], #[], []⟩
  { w0 with heap := w0.heap.modify 0 fun
      | .cells _ t frozen => .cells ((Lib.deBruijn64tab.map Int.ofNat).map fun z => Value.int .u8 z).toArray t frozen
      | o => o }
theorem laid_met (os : Os) (args : Array Value) : laidMet Tryz.prog [("math/bits.deBruijn64tab", Rows.laid_math_bits_deBruijn64tab)] ((laidWorld os).forCall (fun _ _ => 0) ⟨#[], args, []⟩).memory :=
  laidMet_of_run' 8 (by kernel_rfl) (by kernel_rfl)
end Go.Proofs.YtibopjjicfiimaaGreatDoor
