/- A map of numbers that the call has made; the checker in memory. -/
import Derived.Test.YtnajgpefmknmpaaDoorCodeV
import Derived.Maps.Own
import Derived.Maps.OwnOps
import Derived.Maps.OwnSet
namespace Go.Proofs.YtnajgpefmknmpaaDoor
open Go.RowKit Go.Maps
set_option linter.unusedVariables false
theorem keyI : Keyed Tryd.prog 3 := int_keyed Tryd.underlying3
theorem zeroInt (w : World) : (zeroValue 3).run Tryd.prog w = .ok (.int .i64 0) w := by kernel_rfl
theorem i64_wf {a : Int} (h : I64 a) : (Lit.int .i64 a).wf = true := WalkArith.wf_i64 ⟨h.1, by have := h.2; omega⟩
/-- block b is a map that reads as f, of at most n entries -/
def MapI (w : World) (b : Nat) (f : Int → Option Int) (n : Nat) : Prop :=
  ∃ D : DataW Unit, w.ownsMap Tryd.prog 3 (plainElem (H := Unit) Tryd.prog 3) b n D ∧ IsMap D ∧ (∀ z, has D (.int .i64 z) = (f z).isSome) ∧ (∀ z, D.atKey (.int .i64 z) (.lit (.int .i64 0)) = .lit (.int .i64 ((f z).getD 0)))
theorem MapI.lt {w : World} {b n : Nat} {f : Int → Option Int} (h : MapI w b f n) : b < w.heap.size := by obtain ⟨D, h, _⟩ := h; exact h.lt
theorem MapI.mono {w : World} {b n m : Nat} {f : Int → Option Int} (h : MapI w b f n) (hm : n ≤ m) : MapI w b f m := by obtain ⟨D, h, h2⟩ := h; exact ⟨D, h.mono hm, h2⟩
theorem MapI.block {w w' : World} {b n : Nat} {f : Int → Option Int} (h : MapI w b f n) (hb : w'.heap[b]? = w.heap[b]?) : MapI w' b f n := by
  obtain ⟨D, ⟨es, clock, h1, h3⟩, h2⟩ := h
  exact ⟨D, ⟨es, clock, hb.trans h1, h3⟩, h2⟩
theorem MapI.made (w : World) : MapI (w.alloc (.map #[] 0)) w.heap.size (fun _ => none) 0 :=
  ⟨.map [], World.ownsMap_made _ _ _ _, isMap_empty, fun _ => rfl, fun _ => rfl⟩
theorem MapI.look {w : World} {b n : Nat} {f : Int → Option Int} (h : MapI w b f n) {z : Int} (hz : I64 z) :
    (Instr.lookup 84 (.map (some b)) (.int .i64 z) false).run Tryd.prog w = .ok (.int .i64 ((f z).getD 0)) w := by
  obtain ⟨D, h, hD, h1, h2⟩ := h
  obtain ⟨c, hrun, hat, -⟩ := h.lookup_int keyI Tryd.underlying84 Tryd.underlying3 (zeroInt w) (keyOf_int_mk Tryd.underlying3 (i64_wf hz))
  rw [h2 z] at hat
  simp only [DataW.lit.injEq, Lit.int.injEq, true_and] at hat
  exact hrun.trans (congrArg (fun c => Result.ok (Value.int .i64 c) w) hat.symm)
theorem MapI.lookOk {w : World} {b n : Nat} {f : Int → Option Int} (h : MapI w b f n) {z : Int} (hz : I64 z) :
    (Instr.lookup 84 (.map (some b)) (.int .i64 z) true).run Tryd.prog w = .ok (.tuple #[.int .i64 ((f z).getD 0), .bool (f z).isSome]) w := by
  obtain ⟨D, h, hD, h1, h2⟩ := h
  obtain ⟨v, ps, hrun, hv⟩ := h.look_ok keyI Tryd.underlying84 (zeroInt w) (plainElem_int Tryd.underlying3 (by decide)) (keyOf_int_mk Tryd.underlying3 (i64_wf hz))
  obtain ⟨c, rfl, hc, -⟩ := plainElem_int_inv Tryd.underlying3 hv
  have hat := congrArg Prod.fst hc
  simp only [h2 z] at hat
  simp only [DataW.lit.injEq, Lit.int.injEq, true_and] at hat
  rw [h1 z] at hrun
  exact hrun.trans (congrArg (fun c => Result.ok (Value.tuple #[Value.int .i64 c, .bool (f z).isSome]) w) hat.symm)
theorem MapI.store {w : World} {b n : Nat} {f : Int → Option Int} (h : MapI w b f n) {z y : Int} (hz : I64 z) (hy : I64 y) (hn : n < 1000000000) :
    ∃ w', (Instr.mapUpdate 84 (.map (some b)) (.int .i64 z) (.int .i64 y)).run Tryd.prog w = .ok () w' ∧ MapI w' b (upd f z y) (n + 1) ∧ w.grownBy w' (some b) := by
  obtain ⟨D, h, hD, h1, h2⟩ := h
  obtain ⟨w', hrun, hown, hgr⟩ := h.update keyI Tryd.underlying84 (by unfold maxLen; omega) (keyOf_int_mk Tryd.underlying3 (i64_wf hz)) (plainElem_int Tryd.underlying3 (i64_wf hy))
  have hk : WideAt.IsKeyLit (Lit.int .i64 z) := keyI.key (keyOf_int_mk Tryd.underlying3 (i64_wf hz))
  refine ⟨w', hrun, ⟨_, hown, hD.put _ _, fun x => ?_, fun x => ?_⟩, hgr⟩
  · by_cases hx : x = z
    · subst hx; rw [has_put_same hD hk, upd_same]; rfl
    · rw [has_put_other (by intro e; injection e with _ e; exact hx e), upd_other _ hx, h1]
  · by_cases hx : x = z
    · subst hx; rw [atKey_put_same hD hk, upd_same]; rfl
    · rw [atKey_put_other (by intro e; injection e with _ e; exact hx e), upd_other _ hx, h2]
/-- the parts' cells -/
def ptC (p : Pt) : List Value := [.int .i64 (p.fr : Int), .int .i64 (p.to_ : Int), .int .i64 p.deep, .bool p.blk]
def ptsC (l : List Pt) : List Value := l.flatMap ptC
theorem ptsC_length : ∀ l : List Pt, (ptsC l).length = l.length * 4
  | [] => rfl
  | x :: l => by unfold ptsC; rw [List.flatMap_cons, List.length_append]; have := ptsC_length l; unfold ptsC at this; rw [this, List.length_cons]; show 4 + _ = _; omega
theorem ptsC_at : ∀ (l : List Pt) (k : Nat) (h : k < l.length), (ptsC l)[k * 4]? = some (.int .i64 ((l[k]).fr : Int)) ∧ (ptsC l)[k * 4 + 1]? = some (.int .i64 ((l[k]).to_ : Int)) ∧ (ptsC l)[k * 4 + 2]? = some (.int .i64 (l[k]).deep) ∧ (ptsC l)[k * 4 + 3]? = some (.bool (l[k]).blk)
  | x :: l, 0, _ => ⟨rfl, rfl, rfl, rfl⟩
  | x :: l, k + 1, h => by
    have hk : k < l.length := by simpa using h
    obtain ⟨h0, h1, h2, h3⟩ := ptsC_at l k hk
    have e : ptsC (x :: l) = ptC x ++ ptsC l := rfl
    have hl : (ptC x).length = 4 := rfl
    rw [e]
    refine ⟨?_, ?_, ?_, ?_⟩
    · rw [List.getElem?_append_right (by omega), hl, show (k + 1) * 4 - 4 = k * 4 by omega]; simpa using h0
    · rw [List.getElem?_append_right (by omega), hl, show (k + 1) * 4 + 1 - 4 = k * 4 + 1 by omega]; simpa using h1
    · rw [List.getElem?_append_right (by omega), hl, show (k + 1) * 4 + 2 - 4 = k * 4 + 2 by omega]; simpa using h2
    · rw [List.getElem?_append_right (by omega), hl, show (k + 1) * 4 + 3 - 4 = k * 4 + 3 by omega]; simpa using h3
/-- where the checker lies: the struct, the three maps -/
structure Pl where
  h : Nat
  m1 : Nat
  m2 : Nat
  m3 : Nat
/-- the struct's cells -/
def ckC (v pv : Value) (W : Wd) (q : Pl) (most e : Int) : Array Value :=
  #[v, .int .i64 W.lits, .int .i64 W.slots, .int .i64 W.fields, pv, .map (some q.m1), .map (some q.m2), .map (some q.m3), .int .i64 most, .int .i64 e]
/-- THE CHECKER IN MEMORY: its own blocks from B on; N a bound of the maps' entries -/
structure CkAt (w : World) (B : Nat) (q : Pl) (v : Value) (W : Wd) (c : Ck) (pv : Value) (N : Nat) : Prop where
  cells : w.heap[q.h]? = some (.cells (ckC v pv W q c.most c.e) 86 (0, 0))
  row : w.ownsRow B 82 4 pv c.parts.length (ptsC c.parts)
  of_ : MapI w q.m1 c.of_ N
  blocks : MapI w q.m2 c.blocks N
  depth : MapI w q.m3 c.depth N
  bh : B ≤ q.h
  b1 : B ≤ q.m1
  b2 : B ≤ q.m2
  b3 : B ≤ q.m3
  ne12 : q.m1 ≠ q.m2
  ne13 : q.m1 ≠ q.m3
  ne23 : q.m2 ≠ q.m3
end Go.Proofs.YtnajgpefmknmpaaDoor
