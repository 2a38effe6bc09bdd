/- The instructions' forms: the program's table, the document's list. -/
import Derived.Test.YtnajgpefmknmpaaDoorPackPut
import Derived.Test.YtnajgpefmknmpaaDoorCodeP
import Derived.Deep.WholeRow
namespace Go.Proofs.YtnajgpefmknmpaaDoor
open Go.RowKit
set_option linter.unusedVariables false
def fmC (f : Fm) : List Value := [.string ⟨f.name.toArray⟩, .int .i64 (f.a : Int), .bool f.sg, .int .i64 (f.b : Int)]
def formsC : List Value := fmT.flatMap fmC
def formsV : Value := .agg formsC.toArray
theorem zeroForms (w : World) : (zeroValue 59).run Tryd.prog w = .ok (.agg ((List.replicate 20 [Value.string ⟨#[]⟩, .int .i64 0, .bool false, .int .i64 0]).flatten).toArray) w := by kernel_rfl
theorem upon_of {P : Program} {o : Oper} {a : Act} {K : Act → World → Prop} {Q : Exit → Act → World → Prop} {r r' : Result Next} (h : r = r') (k : Oper.upon P o a K Q r') : Oper.upon P o a K Q r := h ▸ k
set_option maxRecDepth 100000 in
set_option maxHeartbeats 1000000 in
theorem forms_any (w : World) :
    Calls Tryd.prog 18 #[] w fun e w' => e = .returned formsV ∧ Below w.heap.size w w' := by
  go_enter Tryd.func18, Tryd.ntmps18
  go_wp2_with fail
  have Z := Lib.hid (zeroForms w)
  have hz : ((List.replicate 20 [Value.string ⟨#[]⟩, .int .i64 0, .bool false, .int .i64 0]).flatten).toArray.size = 80 := by decide
  have hf : formsC.toArray.size = 80 := by decide
  have h1 : formsC.toArray.all (·.oneCell') = true := by kernel_rfl
  generalize hq : formsC.toArray = fs at hf h1
  have HQ := Lib.hid hq; clear hq
  generalize List.toArray (List.flatten (List.replicate 20 [Value.string ⟨#[]⟩, .int .i64 0, .bool false, .int .i64 0])) = zs at Z hz
  rw [Z.out]
  go_wp2_with fail
  refine upon_of (r' :=   .ok (.value (.agg fs)) (w.alloc (.cells zs 59))) ?_ ?_
  · rw [(zeroForms _), ← HQ.out]
    kernel_rfl
  have hS := run_storeCells_new (P := Tryd.prog) w 59 zs fs (by rw [hf]; kernel_rfl) (by rw [hz, hf]) h1
  have hL := run_loadCellsFrom_new (P := Tryd.prog) w 59 fs 80 hf
  go_wp2_with fail
  exact bodyPost_ret (v := .agg fs) (results_cell_row Tryd.results18 _ _ w.heap.size 59 fs (0, 0) _ rfl (heap_alloc_last w _) Tryd.underlying59 rfl (by rw [hf]; kernel_rfl)) rfl ⟨by rw [formsV, HQ.out], (Below.refl _ _).alloc (Nat.le_refl _) _⟩
end Go.Proofs.YtnajgpefmknmpaaDoor
