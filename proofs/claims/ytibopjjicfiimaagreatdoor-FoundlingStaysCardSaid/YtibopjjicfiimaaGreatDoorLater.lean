/- A region that draws its order, whose operations read what was there when it began and whose callees at most lay new blocks: one walk in the order of the text serves every order. -/
import Derived.WalkKit
import Derived.WalkSpells
import Derived.Lib.Hide
import Derived.BigQuiet
namespace Go.Proofs.YtibopjjicfiimaaGreatDoor
open Go.RowKit
theorem ret_t2 {x : Value} {k : IntKind} {a b : Int} (h : a = b) : Ending.returned (.tuple #[x, .int k a]) = .returned (.tuple #[x, .int k b]) := by rw [h]
theorem ret_ta2 {k k' : IntKind} {x : Int} {a b : Int} {u : Value} (h : a = b) : Ending.returned (.tuple #[.agg #[.int k x, .int k' a], u]) = .returned (.tuple #[.agg #[.int k x, .int k' b], u]) := by rw [h]
/-- a world that holds, below w's end, what w holds -/
def Lt (w : World) : Type := { w' : World // Below w.heap.size w w' }
instance lt_nonempty (w : World) : Nonempty (Lt w) := ⟨⟨w, Below.refl _ _⟩⟩
def later (w : World) (x : Lt w) : World := x.1
theorem later_below (w : World) (x : Lt w) : Below w.heap.size w (later w x) := x.2
theorem later_of {w w' : World} (h : Below w.heap.size w w') : ∃ x, w' = later w x := ⟨⟨w', h⟩, rfl⟩
@[go_sem] theorem later_cell (w : World) (x : Lt w) (b o : Nat) (hb : b < w.heap.size) : (later w x).cell? ⟨b, o, none⟩ = w.cell? ⟨b, o, none⟩ :=
  x.2.cell (p := ⟨b, o, none⟩) hb
@[go_sem] theorem later_frozen (w : World) (x : Lt w) (b o : Nat) (hb : b < w.heap.size) : (later w x).frozen? ⟨b, o, none⟩ = w.frozen? ⟨b, o, none⟩ :=
  x.2.frozen (p := ⟨b, o, none⟩) hb
theorem later_elim {w w' : World} (h : ∃ x, w' = later w x) : Below w.heap.size w w' := by obtain ⟨x, rfl⟩ := h; exact later_below w x
theorem wp_region_later {P : Program} {id : Nat} {Q : Exit → Act → World → Prop} {a : Act} {w : World} {l : List Oper} (hm : P.follows .mixedOrders = true) (hB : Region.lexB .any l.toArray = true)
    (h : wpQuiet P l.toArray (fun w' => ∃ x, w' = later w x) (fun a' => ∀ w', (∃ x, w' = later w x) → Q .normal a' w') l a) : (Code.region id l.toArray true).wp P Q a w :=
  wp_region_quiet (C := fun w' => ∃ x, w' = later w x) hm hB (later_of (Below.refl _ w).drew) (by simpa using h)
theorem calls_later {P : Program} {f : FuncId} {args : Array Value} {w : World} {x : Lt w} {v : Value}
    (h : ∀ W, Calls P f args W fun e w' => e = .returned v ∧ Below W.heap.size W w') : Calls P f args (later w x) fun e w'' => e = .returned v ∧ ∃ y, w'' = later w y :=
  (h _).mono fun _ _ ⟨he, hb⟩ => ⟨he, later_of ((later_below w x).trans (hb.mono (later_below w x).size))⟩
theorem calls_later_same {P : Program} {f : FuncId} {args : Array Value} {w : World} {x : Lt w} {v : Value}
    (h : ∀ W, Calls P f args W fun e w' => e = .returned v ∧ W = w') : Calls P f args (later w x) fun e w'' => e = .returned v ∧ ∃ y, w'' = later w y :=
  (h _).mono fun _ _ ⟨he, hb⟩ => ⟨he, hb ▸ ⟨x, rfl⟩⟩
end Go.Proofs.YtibopjjicfiimaaGreatDoor
