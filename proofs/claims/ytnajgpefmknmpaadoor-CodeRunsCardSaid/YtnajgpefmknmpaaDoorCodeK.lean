/- What an append to a row of the call's own leaves as it was. -/
import Derived.Test.YtnajgpefmknmpaaDoorCodeB
import Derived.Lib.OthersKept
namespace Go.Proofs.YtnajgpefmknmpaaDoor
open Go.RowKit
set_option linter.unusedVariables false
/-- below B all stands; and wherever it lies, what is no row of bytes -/
def Kp (B : Nat) (w w' : World) : Prop := Below B w w' ∧ Lib.OthersKept 5 none w w'
theorem Kp.refl (B : Nat) (w : World) : Kp B w w := ⟨Below.refl _ _, Lib.OthersKept.refl _ _ _⟩
theorem Kp.drew {B : Nat} {a w : World} (h : Kp B a w) : Kp B a w.drew := ⟨h.1.drew, h.2.drew⟩
theorem Kp.trans {B : Nat} {a b c : World} (h : Kp B a b) (k : Kp B b c) : Kp B a c := ⟨h.1.trans k.1, h.2.trans k.2⟩
theorem Kp.alloc {B : Nat} {a w : World} (h : Kp B a w) (hB : B ≤ w.heap.size) (o : Obj) : Kp B a (w.alloc o) := ⟨h.1.alloc hB o, h.2.alloc o⟩
theorem own_row_cells {w : World} {B e size n : Nat} {v : Value} {xs : List Value} (h : w.ownsRow B e size v n xs) : ∀ g, v.ownBlock = some g → ∃ c fz, w.heap[g]? = some (.cells c e fz) := by
  intro g hg
  rcases h.2 with ⟨hv, _⟩ | ⟨g', cap, cur, hv, _, hh, _⟩
  · subst hv; simp [Value.ownBlock] at hg
  · subst hv
    have : g' = g := by simpa [Value.ownBlock] using hg
    subst this
    exact ⟨_, _, hh⟩
theorem Kp.push {B : Nat} {w wr w2 : World} {v : Value} {l : List UInt8} {o : Obj} (h : Kp B w wr) (hB : B ≤ wr.heap.size) (ho : OwnsB wr B v l) (hg : (wr.alloc o).grownBy w2 v.ownBlock) : Kp B w w2 :=
  ⟨Below.grown (h.1.alloc hB _) hg (by simp; omega) (fun q hq => (ho.lt q hq).1), (h.2.alloc o).grown hg (own_row_cells (ho.alloc _))⟩
/-- a block that is no row of bytes -/
theorem Kp.block {B k : Nat} {w w' : World} {cs : Array Value} {t : TypeId} {fz : Nat × Nat} (h : Kp B w w') (hb : w.heap[k]? = some (.cells cs t fz)) (ht : t ≠ 5) : w'.heap[k]? = some (.cells cs t fz) :=
  h.2 k _ hb (by simp) (by intro c f hc; injection hc with _ h2; exact ht h2)
end Go.Proofs.YtnajgpefmknmpaaDoor
