/- A head that came in by value: what its five cells are. -/
import Derived.Test.YtmbfkagoiijjmaaRows
import Derived.Lib.SmallJoins
import Derived.ProofKit
import Derived.OpenShut
namespace Go.Proofs.Ytmbfkagoiijjmaa
open Go.Joins Go.ChangeShapes Go.WideShapes Go.ChangeAt Go.RowKit Go.Deep
theorem head_fields : ∃ f0 f1 f2 f3 f4 : Field, Try.prog.underlying 38 = some (.struct #[f0, f1, f2, f3, f4]) ∧ oneCellFields Try.prog #[f0, f1, f2, f3, f4] = true ∧
    f0.type = 22 ∧ f1.type = 3 ∧ f2.type = 3 ∧ f3.type = 31 ∧ f4.type = 4 :=
  ⟨_, _, _, _, _, Try.underlying38, by kernel_rfl, rfl, rfl, rfl, rfl, rfl⟩
set_option maxRecDepth 100000 in
theorem open_head {H : Type} {enc : TypeId × Value → H} {w : World} {base : Nat} {spare : Nat → Bool} {held : Bool} {r : Reach} {b0 : Nat} {v : Value} {d : DataW H} {p : List MemPlace}
    (hv : Value.okWide Try.prog w r b0 38 v) (h : DataW.Trod enc Try.prog w base spare held 38 v d p) :
    ∃ (c k s x : Int) (m : Bool), v = .agg #[.int .u64 c, .int .i64 k, .int .i64 s, .int .u32 x, .bool m] ∧ (Lit.int .u64 c).wf = true ∧ (Lit.int .u32 x).wf = true := by
  obtain ⟨f0, f1, f2, f3, f4, hs, hone, t0, t1, t2, t3, t4⟩ := head_fields
  obtain ⟨cs, rfl, hsz⟩ := okWide_struct hs hv
  have hC : Try.prog.cellsOf 38 = 5 := by kernel_rfl
  obtain ⟨l⟩ := cs
  match l, hsz.trans hC with
  | [c0, c1, c2, c3, c4], _ =>
    obtain ⟨fuel, hf⟩ := h
    obtain ⟨xs, n, _, -, -, hlen, hg⟩ := DataW.trod_struct hs hf
    match xs, hlen with
    | [y0, y1, y2, y3, y4], _ =>
      obtain ⟨o0, k0⟩ := hone_of hone 0 f0 rfl
      rw [t0] at k0
      obtain ⟨o1, k1⟩ := hone_of hone 1 f1 rfl
      rw [t1] at k1
      obtain ⟨o2, k2⟩ := hone_of hone 2 f2 rfl
      rw [t2] at k2
      obtain ⟨o3, k3⟩ := hone_of hone 3 f3 rfl
      rw [t3] at k3
      obtain ⟨o4, k4⟩ := hone_of hone 4 f4 rfl
      rw [t4] at k4
      have g0 := hg 0 f0 rfl
      have g1 := hg 1 f1 rfl
      have g2 := hg 2 f2 rfl
      have g3 := hg 3 f3 rfl
      have g4 := hg 4 f4 rfl
      simp [Value.cells, o0, t0, k0] at g0
      simp [Value.cells, o1, t1, k1] at g1
      simp [Value.cells, o2, t2, k2] at g2
      simp [Value.cells, o3, t3, k3] at g3
      simp [Value.cells, o4, t4, k4] at g4
      obtain ⟨a0, e0, _, w0⟩ := DataW.trod_int Try.underlying22 g0
      obtain ⟨a1, e1, _, w1⟩ := DataW.trod_int Try.underlying3 g1
      obtain ⟨a2, e2, _, w2⟩ := DataW.trod_int Try.underlying3 g2
      obtain ⟨a3, e3, _, w3⟩ := DataW.trod_int Try.underlying31 g3
      obtain ⟨a4, e4, _⟩ := DataW.trod_bool Try.underlying4 g4
      simp at e0 e1 e2 e3 e4
      subst e0 e1 e2 e3 e4
      exact ⟨a0, a1, a2, a3, a4, rfl, w0, w3⟩
end Go.Proofs.Ytmbfkagoiijjmaa
