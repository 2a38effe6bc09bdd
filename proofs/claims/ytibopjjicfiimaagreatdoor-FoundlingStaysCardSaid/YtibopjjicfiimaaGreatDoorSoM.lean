/- Maps that the calls make: sets of words, words by their texts. -/
import Derived.Test.YtibopjjicfiimaaGreatDoorSoB
import Derived.Maps.Own
import Derived.Maps.OwnOps
import Derived.Maps.OwnSet
namespace Go.Proofs.YtibopjjicfiimaaGreatDoor
open Go.RowKit Go.Maps
set_option linter.unusedVariables false
theorem keyW : Keyed Tryz.prog 39 := int_keyed Tryz.underlying39
theorem keyS : Keyed Tryz.prog 9 := string_keyed Tryz.underlying9
theorem zeroB (w : World) : (zeroValue 4).run Tryz.prog w = .ok (.bool false) w := by kernel_rfl
theorem u64_wf {a : Nat} (h : a < 18446744073709551616) : (Lit.int .u64 (a : Int)).wf = true := by
  have h1 : IntKind.u64.min = 0 := by decide
  have h2 : IntKind.u64.max = 18446744073709551615 := by decide
  simp only [Lit.wf, h1, h2]
  simp
  omega
theorem plainElem_bool_inv {H : Type} {P : Program} {e : TypeId} (he : P.underlying e = some .bool) {v : Value} {z : DataW H × List MemPlace} (h : plainElem P e v = some z) : ∃ x, v = .bool x ∧ z = (.lit (.bool x), []) := by
  unfold plainElem at h
  rw [he] at h
  cases v <;> simp at h
  exact ⟨_, rfl, h.symm⟩
/-- block b is a set of words -/
def SetW (w : World) (b : Nat) (f : Nat → Bool) (n : Nat) : Prop :=
  ∃ D : DataW Unit, w.ownsMap Tryz.prog 39 (plainElem (H := Unit) Tryz.prog 4) b n D ∧ IsMap D ∧ (∀ z : Nat, D.atKey (.int .u64 (z : Int)) (.lit (.bool false)) = .lit (.bool (f z)))
theorem SetW.lt {w : World} {b n : Nat} {f : Nat → Bool} (h : SetW w b f n) : b < w.heap.size := by obtain ⟨D, h, _⟩ := h; exact h.lt
theorem SetW.block {w w' : World} {b n : Nat} {f : Nat → Bool} (h : SetW w b f n) (hb : w'.heap[b]? = w.heap[b]?) : SetW w' b f n := by
  obtain ⟨D, ⟨es, clock, h1, h3⟩, h2⟩ := h
  exact ⟨D, ⟨es, clock, hb.trans h1, h3⟩, h2⟩
theorem SetW.later {w w' : World} {b n : Nat} {f : Nat → Bool} (h : SetW w b f n) (hb : Below w.heap.size w w') : SetW w' b f n := h.block (hb.block b h.lt)
theorem SetW.made (w : World) : SetW (w.alloc (.map #[] 0)) w.heap.size (fun _ => false) 0 :=
  ⟨.map [], World.ownsMap_made _ _ _ _, isMap_empty, fun _ => rfl⟩
theorem SetW.look {w : World} {b n : Nat} {f : Nat → Bool} (h : SetW w b f n) {z : Nat} (hz : z < 18446744073709551616) :
    (Instr.lookup 125 (.map (some b)) (.int .u64 (z : Int)) false).run Tryz.prog w = .ok (.bool (f z)) w := by
  obtain ⟨D, h, hD, h2⟩ := h
  obtain ⟨v, ps, hrun, hv⟩ := h.lookup keyW Tryz.underlying125 (zeroB w) (plainElem_bool Tryz.underlying4 false) (keyOf_int_mk Tryz.underlying39 (u64_wf hz))
  obtain ⟨x, rfl, hx⟩ := plainElem_bool_inv Tryz.underlying4 hv
  have hat := congrArg Prod.fst hx
  simp only [h2 z] at hat
  simp only [DataW.lit.injEq, Lit.bool.injEq] at hat
  rw [← hat] at hrun
  exact hrun
theorem SetW.store {w : World} {b n : Nat} {f : Nat → Bool} (h : SetW w b f n) {z : Nat} (hz : z < 18446744073709551616) (hn : n < 1000000000) :
    ∃ w', (Instr.mapUpdate 125 (.map (some b)) (.int .u64 (z : Int)) (.bool true)).run Tryz.prog w = .ok () w' ∧ SetW w' b (fun y => decide (y = z) || f y) (n + 1) ∧ w.grownBy w' (some b) := by
  obtain ⟨D, h, hD, h2⟩ := h
  obtain ⟨w', hrun, hown, hgr⟩ := h.update keyW Tryz.underlying125 (by unfold maxLen; omega) (keyOf_int_mk Tryz.underlying39 (u64_wf hz)) (plainElem_bool Tryz.underlying4 true)
  have hk : WideAt.IsKeyLit (Lit.int .u64 (z : Int)) := keyW.key (keyOf_int_mk Tryz.underlying39 (u64_wf hz))
  refine ⟨w', hrun, ⟨_, hown, hD.put _ _, fun x => ?_⟩, hgr⟩
  by_cases hx : x = z
  · subst hx; rw [atKey_put_same hD hk]; simp
  · rw [atKey_put_other (by intro e; injection e with _ e; exact hx (by omega)), h2]; simp [hx]
/-- block b is a map of words by texts -/
def MapS (E : TypeId) (w : World) (b : Nat) (f : List UInt8 → Option Nat) (n : Nat) : Prop :=
  ∃ D : DataW Unit, w.ownsMap Tryz.prog 9 (plainElem (H := Unit) Tryz.prog E) b n D ∧ IsMap D ∧ (∀ s, has D (.string s) = (f s).isSome) ∧ (∀ s, D.atKey (.string s) (.lit (.int .u64 0)) = .lit (.int .u64 ((f s).getD 0 : Nat)))
def updS (f : List UInt8 → Option Nat) (s : List UInt8) (x : Nat) : List UInt8 → Option Nat := fun t => if t = s then some x else f t
section
variable {E T : TypeId}
theorem MapS.lt {w : World} {b n : Nat} {f : List UInt8 → Option Nat} (h : MapS E w b f n) : b < w.heap.size := by obtain ⟨D, h, _⟩ := h; exact h.lt
theorem MapS.block {w w' : World} {b n : Nat} {f : List UInt8 → Option Nat} (h : MapS E w b f n) (hb : w'.heap[b]? = w.heap[b]?) : MapS E w' b f n := by
  obtain ⟨D, ⟨es, clock, h1, h3⟩, h2⟩ := h
  exact ⟨D, ⟨es, clock, hb.trans h1, h3⟩, h2⟩
theorem MapS.later {w w' : World} {b n : Nat} {f : List UInt8 → Option Nat} (h : MapS E w b f n) (hb : Below w.heap.size w w') : MapS E w' b f n := h.block (hb.block b h.lt)
theorem MapS.made (w : World) : MapS E (w.alloc (.map #[] 0)) w.heap.size (fun _ => none) 0 :=
  ⟨.map [], World.ownsMap_made _ _ _ _, isMap_empty, fun _ => rfl, fun _ => rfl⟩
theorem MapS.look {w : World} {b n : Nat} {f : List UInt8 → Option Nat} (h : MapS E w b f n) (hT : Tryz.prog.underlying T = some (.map 9 E)) (hE : Tryz.prog.underlying E = some (.int .u64)) (hz : (zeroValue E).run Tryz.prog w = .ok (.int .u64 0) w) {s : ByteArray} (hs : s.size ≤ maxLen) :
    (Instr.lookup T (.map (some b)) (.string s) false).run Tryz.prog w = .ok (.int .u64 ((f s.data.toList).getD 0 : Nat)) w := by
  obtain ⟨D, h, hD, h1, h2⟩ := h
  obtain ⟨c, hrun, hat, -⟩ := h.lookup_int keyS hT hE hz (WideMaps.keyOf_string_mk Tryz.underlying9 hs)
  rw [h2 s.data.toList] at hat
  simp only [DataW.lit.injEq, Lit.int.injEq, true_and] at hat
  exact hrun.trans (congrArg (fun c => Result.ok (Value.int .u64 c) w) hat.symm)
theorem MapS.store {w : World} {b n : Nat} {f : List UInt8 → Option Nat} (h : MapS E w b f n) (hT : Tryz.prog.underlying T = some (.map 9 E)) (hE : Tryz.prog.underlying E = some (.int .u64)) {s : ByteArray} {y : Nat} (hs : s.size ≤ maxLen) (hy : y < 18446744073709551616) (hn : n < 1000000000) :
    ∃ w', (Instr.mapUpdate T (.map (some b)) (.string s) (.int .u64 (y : Int))).run Tryz.prog w = .ok () w' ∧ MapS E w' b (updS f s.data.toList y) (n + 1) ∧ w.grownBy w' (some b) := by
  obtain ⟨D, h, hD, h1, h2⟩ := h
  obtain ⟨w', hrun, hown, hgr⟩ := h.update keyS hT (by unfold maxLen; omega) (WideMaps.keyOf_string_mk Tryz.underlying9 hs) (plainElem_int hE (u64_wf hy))
  have hk : WideAt.IsKeyLit (Lit.string s.data.toList) := keyS.key (WideMaps.keyOf_string_mk Tryz.underlying9 hs)
  refine ⟨w', hrun, ⟨_, hown, hD.put _ _, fun x => ?_, fun x => ?_⟩, hgr⟩
  · unfold updS
    by_cases hx : x = s.data.toList
    · subst hx; rw [has_put_same hD hk, if_pos rfl]; rfl
    · rw [has_put_other (by intro e; injection e with e; exact hx e), if_neg hx, h1]
  · unfold updS
    by_cases hx : x = s.data.toList
    · subst hx; rw [atKey_put_same hD hk, if_pos rfl]; rfl
    · rw [atKey_put_other (by intro e; injection e with e; exact hx e), if_neg hx, h2]
end
end Go.Proofs.YtibopjjicfiimaaGreatDoor
