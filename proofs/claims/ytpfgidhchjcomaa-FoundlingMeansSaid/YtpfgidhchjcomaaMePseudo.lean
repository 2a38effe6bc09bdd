/- Names that always mean the same. -/
import Derived.Test.YtpfgidhchjcomaaMeCheckB
import Derived.Maps.Own
import Derived.Maps.OwnOps
import Derived.Maps.OwnSet
namespace Go.Proofs.Ytpfgidhchjcomaa
open Go.RowKit Go.Maps
set_option linter.unusedVariables false
theorem keyS : Keyed Try.prog 9 := string_keyed Try.underlying9
theorem zeroInt (w : World) : (zeroValue 3).run Try.prog w = .ok (.int .i64 0) w := by kernel_rfl
theorem i64_wf {a : Int} (h : I64 a) : (Lit.int .i64 a).wf = true := WalkArith.wf_i64 ⟨h.1, by have := h.2; omega⟩
def updS (f : List UInt8 → Option Int) (z : List UInt8) (y : Int) : List UInt8 → Option Int := fun x => if x = z then some y else f x
/-- block b is a map from strings that reads as f, of at most n entries -/
def MapS (w : World) (b : Nat) (f : List UInt8 → Option Int) (n : Nat) : Prop :=
  ∃ D : DataW Unit, w.ownsMap Try.prog 9 (plainElem (H := Unit) Try.prog 3) b n D ∧ IsMap D ∧ (∀ z, has D (.string z) = (f z).isSome) ∧ (∀ z, D.atKey (.string z) (.lit (.int .i64 0)) = .lit (.int .i64 ((f z).getD 0)))
theorem MapS.made (w : World) : MapS (w.alloc (.map #[] 0)) w.heap.size (fun _ => none) 0 :=
  ⟨.map [], World.ownsMap_made _ _ _ _, isMap_empty, fun _ => rfl, fun _ => rfl⟩
theorem MapS.lookOk {w : World} {b n : Nat} {f : List UInt8 → Option Int} (h : MapS w b f n) {s : ByteArray} (hs : s.size ≤ maxLen) :
    (Instr.lookup 110 (.map (some b)) (.string s) true).run Try.prog w = .ok (.tuple #[.int .i64 ((f s.data.toList).getD 0), .bool (f s.data.toList).isSome]) w := by
  obtain ⟨D, h, hD, h1, h2⟩ := h
  obtain ⟨v, ps, hrun, hv⟩ := h.look_ok keyS Try.underlying110 (zeroInt w) (plainElem_int Try.underlying3 (by decide)) (WideMaps.keyOf_string_mk (P := Try.prog) Try.underlying9 hs)
  obtain ⟨c, rfl, hc, -⟩ := plainElem_int_inv Try.underlying3 hv
  have hat := congrArg Prod.fst hc
  simp only [h2] at hat
  simp only [DataW.lit.injEq, Lit.int.injEq, true_and] at hat
  rw [h1] at hrun
  exact hrun.trans (congrArg (fun c => Result.ok (Value.tuple #[Value.int .i64 c, .bool (f s.data.toList).isSome]) w) hat.symm)
theorem MapS.store {w : World} {b n : Nat} {f : List UInt8 → Option Int} (h : MapS w b f n) {s : ByteArray} (hs : s.size ≤ maxLen) {y : Int} (hy : I64 y) (hn : n < 1000000000) :
    ∃ w', (Instr.mapUpdate 110 (.map (some b)) (.string s) (.int .i64 y)).run Try.prog w = .ok () w' ∧ MapS w' b (updS f s.data.toList y) (n + 1) ∧ w.grownBy w' (some b) := by
  obtain ⟨D, h, hD, h1, h2⟩ := h
  obtain ⟨w', hrun, hown, hgr⟩ := h.update keyS Try.underlying110 (by unfold maxLen; omega) (WideMaps.keyOf_string_mk (P := Try.prog) Try.underlying9 hs) (plainElem_int Try.underlying3 (i64_wf hy))
  have hk : WideAt.IsKeyLit (Lit.string s.data.toList) := keyS.key (WideMaps.keyOf_string_mk (P := Try.prog) Try.underlying9 hs)
  refine ⟨w', hrun, ⟨_, hown, hD.put _ _, fun x => ?_, fun x => ?_⟩, hgr⟩
  · unfold updS
    by_cases hx : x = s.data.toList
    · subst hx; rw [has_put_same hD hk, if_pos rfl]; rfl
    · rw [has_put_other (by intro e; injection e with e; exact hx e), if_neg hx, h1]
  · unfold updS
    by_cases hx : x = s.data.toList
    · subst hx; rw [atKey_put_same hD hk, if_pos rfl]; rfl
    · rw [atKey_put_other (by intro e; injection e with e; exact hx e), if_neg hx, h2]
def pseudoF : List UInt8 → Option Int := updS (updS (updS (updS (fun _ => none) [115, 101, 108, 102] 8) [110, 105, 108] 5) [116, 114, 117, 101] 6) [102, 97, 108, 115, 101] 7
def pseudoM (s : ByteArray) : Option Int := pseudoF s.data.toList
theorem below_of_grown {w w' : World} {b : Nat} (h : w.grownBy w' (some b)) {B : Nat} (hB : B ≤ b) (hs : B ≤ w.heap.size) : Below B w w' := ⟨h.1, h.2, h.3, h.4, fun k hk => h.5 k (by omega) (by intro e; injection e with e; omega)⟩
set_option maxRecDepth 100000 in
set_option maxHeartbeats 4000000 in
theorem pseudo_any (s : ByteArray) (w : World) (hs : s.size ≤ maxLen) :
    Calls Try.prog 45 #[.string s] w fun e w' => e = .returned (.tuple #[.int .i64 ((pseudoM s).getD 0), .bool (pseudoM s).isSome]) ∧ Below w.heap.size w w' := by
  have m0 := MapS.made w
  obtain ⟨w1, r1, m1, g1⟩ := m0.store (s := ⟨#[115, 101, 108, 102]⟩) (by unfold maxLen; decide) (y := 8) (by constructor <;> decide) (by omega)
  obtain ⟨w2, r2, m2, g2⟩ := m1.store (s := ⟨#[110, 105, 108]⟩) (by unfold maxLen; decide) (y := 5) (by constructor <;> decide) (by omega)
  obtain ⟨w3, r3, m3, g3⟩ := m2.store (s := ⟨#[116, 114, 117, 101]⟩) (by unfold maxLen; decide) (y := 6) (by constructor <;> decide) (by omega)
  obtain ⟨w4, r4, m4, g4⟩ := m3.store (s := ⟨#[102, 97, 108, 115, 101]⟩) (by unfold maxLen; decide) (y := 7) (by constructor <;> decide) (by omega)
  have r5 := m4.lookOk hs
  have HB := Lib.hid (show Below w.heap.size w w4 from by
    have b0 : Below w.heap.size w (w.alloc (.map #[] 0)) := (Below.refl _ _).alloc (Nat.le_refl _) _
    have b1 := below_of_grown g1 (Nat.le_refl w.heap.size) b0.size
    have b2 := below_of_grown g2 (Nat.le_refl w.heap.size) (b0.trans b1).size
    have b3 := below_of_grown g3 (Nat.le_refl w.heap.size) ((b0.trans b1).trans b2).size
    have b4 := below_of_grown g4 (Nat.le_refl w.heap.size) (((b0.trans b1).trans b2).trans b3).size
    exact (((b0.trans b1).trans b2).trans b3).trans b4)
  have HF : updS (updS (updS (updS (fun _ => none) [115, 101, 108, 102] 8) [110, 105, 108] 5) [116, 114, 117, 101] 6) [102, 97, 108, 115, 101] 7 s.data.toList = pseudoM s := rfl
  replace r5 : (Instr.lookup 110 (.map (some w.heap.size)) (.string s) true).run Try.prog w4 = .ok (.tuple #[.int .i64 ((pseudoM s).getD 0), .bool (pseudoM s).isSome]) w4 := r5
  clear m0 m1 m2 m3 m4 g1 g2 g3 g4 HF
  generalize (pseudoM s).getD 0 = a at *
  generalize (pseudoM s).isSome = b at *
  have hmm := @run_makeMap Try.prog
  go_enter Try.func45, Try.ntmps45
  go_wp2_with fail
  exact bodyPost_ret (results_tmp2 Try.results45 _ _ _) rfl ⟨rfl, HB.out⟩
end Go.Proofs.Ytpfgidhchjcomaa
