/- Going through objects: what the walk's state is; it begins. -/
import Derived.Test.YtfhkmbeokdfllaaHeapT
import Derived.Test.YtfhkmbeokdfllaaHeapE
import Derived.Test.YtfhkmbeokdfllaaPackMore
import Derived.Test.YtfhkmbeokdfllaaCopy
namespace Go.Proofs.Ytfhkmbeokdfllaa
open Go.RowKit
set_option linter.unusedVariables false
set_option maxRecDepth 100000 in
theorem hcells_any (B h N free : Nat) (S : Nat → Bool) (M : Nat → Nat) (w : World) (H : HeapAt w B h N free S M) :
    Calls Try.prog 21 #[.pointer (some ⟨h, 0, none⟩)] w fun e w' => e = .returned (.int .i64 (N : Int)) ∧ w' = w := by
  obtain ⟨g, s, h1, h2, h3, h3', h4, h5, h6, h7, h8⟩ := H
  have c0 : w.cell? ⟨h, 0, none⟩ = some (.slice (some ⟨g, 0, none⟩) N N) := by simp [World.cell?, h5]
  have hl := (Array.getElem?_eq_some_iff.1 h5).1
  clear h5 h6 h8
  go_enter Try.func21, Try.ntmps21
  go_wp2_with fail
  go_ret
  exact ⟨rfl, rfl⟩
def wordCells (l : List Nat) : List Value := l.map fun (x : Nat) => Value.int .u64 (Int.ofNat x)
/-- a row of words of the call's own -/
def OwnsW (w : World) (B : Nat) (v : Value) (l : List Nat) : Prop := w.ownsRow B 29 1 v l.length (wordCells l)
theorem OwnsW.keeps {w w' : World} {B : Nat} {v : Value} {l : List Nat} {T : TypeId} (h : OwnsW w B v l) (hk : KeepsBut T w w') (hT : 29 ≠ T) : OwnsW w' B v l := by
  unfold OwnsW at h ⊢
  obtain ⟨h0, h⟩ := h
  refine ⟨h0, ?_⟩
  rcases h with h | ⟨g, cap, cur, h1, h2, h3, h4⟩
  · exact Or.inl h
  · exact Or.inr ⟨g, cap, cur, h1, h2, by rw [hk g _ _ _ h3 hT]; exact h3, h4⟩
/-- the walk's state: which objects were met, which wait, how many cells they have; nothing is loose -/
def LookAt (w : World) (B p h N : Nat) (T : Nat → Bool) (l : List Nat) (k : Nat) : Prop :=
  ∃ b v, B ≤ p ∧ B ≤ b ∧ w.heap[p]? = some (.cells #[.pointer (some ⟨h, 0, none⟩), .pointer (some ⟨b, 0, none⟩), v, .int .i64 (k : Int), .bool false] 75 (0, 0)) ∧ BitsAt w B b N T ∧ OwnsW w B v l
theorem LookAt.keeps {w w' : World} {B p h N k : Nat} {T : Nat → Bool} {l : List Nat} {t : TypeId} (H : LookAt w B p h N T l k) (hk : KeepsBut t w w') (t1 : 75 ≠ t) (t2 : 29 ≠ t) (t3 : 78 ≠ t) (t4 : 28 ≠ t) : LookAt w' B p h N T l k := by
  obtain ⟨b, v, h1, h2, h3, h4, h5⟩ := H
  exact ⟨b, v, h1, h2, by rw [hk p _ _ _ h3 t1]; exact h3, h4.keeps hk t3 t4, h5.keeps hk t2⟩
theorem LookAt.later {w w' : World} {B p h N k : Nat} {T : Nat → Bool} {l : List Nat} (H : LookAt w B p h N T l k) (hb : Below w.heap.size w w') : LookAt w' B p h N T l k := by
  obtain ⟨b, v, h1, h2, h3, h4, h5⟩ := H
  exact ⟨b, v, h1, h2, by rw [hb.block p (Array.getElem?_eq_some_iff.1 h3).1]; exact h3, h4.later hb, owns_later h5 hb⟩
set_option maxRecDepth 100000 in
theorem begin_any (B h N free : Nat) (S : Nat → Bool) (M : Nat → Nat) (w : World) (H : HeapAt w B h N free S M) :
    Calls Try.prog 32 #[.pointer (some ⟨h, 0, none⟩)] w fun e w' => ∃ p, e = .returned (.pointer (some ⟨p, 0, none⟩)) ∧ LookAt w' w.heap.size p h N (fun _ => false) [] 0 ∧ Below w.heap.size w w' := by
  have HC := Lib.hid (hcells_any B h N free S M w H)
  have hN : N ≤ 16777216 := by obtain ⟨g, s, -, -, h3, -⟩ := H; exact h3
  have NB := Lib.hid (newBits_any (N : Int) w)
  rw [show sizeZ (N : Int) = N by unfold sizeZ; omega] at NB
  go_enter Try.func32, Try.ntmps32
  go_wp2_with fail
  refine HC.out.mono ?_
  rintro e w1 ⟨rfl, rfl⟩
  go_wp2_with fail
  refine NB.out.mono ?_
  rintro e w2 ⟨rfl, hb, hg⟩
  have HB := Lib.hid hb; have HG := Lib.hid hg; clear hb hg
  go_wp2_with fail
  go_ret
  have hs : w1.heap.size ≤ w2.heap.size := HG.out.size
  refine ⟨w2.heap.size, rfl, ⟨w1.heap.size + 1, .slice none 0 0, hs, by omega, heap_alloc_new w2 _, HB.out.later ((Below.refl _ w2).alloc (Nat.le_refl _) _), show World.ownsRow _ _ _ _ _ 0 [] from World.ownsRow_nil _ _ _ _⟩, HG.out.alloc hs _⟩
end Go.Proofs.Ytfhkmbeokdfllaa
