/- FoundlingMeans: what a method means does not hang on globals that it does not name, nor on fields behind its own: for every method, every world. -/
import Derived.Test.YtpfgidhchjcomaaMeWalk
import Derived.Test.YtpfgidhchjcomaaRows
import Derived.ProofKit
import Derived.OpenShut
import Derived.ChangeOld
namespace Go.Proofs.Ytpfgidhchjcomaa
open Go.Joins Go.ChangeShapes Go.WideShapes Go.ChangeAt Go.RowKit Go.Deep
set_option linter.unusedVariables false
set_option maxRecDepth 100000 in
theorem open_mth {H : Type} {enc : TypeId × Value → H} {w : World} {base : Nat} {spare : Nat → Bool} {held : Bool} {r : Reach} {b0 : Nat} {v : Value} {d : DataW H} {p : List MemPlace}
    (hv : Value.okWide Try.prog w r b0 25 v) (h : DataW.Trod enc Try.prog w base spare held 25 v d p) :
    ∃ (D : Nat) (nm : ByteArray) (pv tv : Value) (ps ts : List ByteArray) (pr : Int) (bv : Value) (at_ : Int) (l : List Nd), v = mtV nm pv tv pr bv at_ ∧ StrsX (· < w.heap.size) w pv ps ∧ StrsX (· < w.heap.size) w tv ts ∧ NodesX (· < w.heap.size) D w bv l := by
  obtain ⟨f0, f1, f2, f3, f4, f5, hs, hone, t0, t1, t2, t3, t4, t5⟩ := mth_fields
  obtain ⟨cs, rfl, hsz⟩ := okWide_struct hs hv
  have hC : Try.prog.cellsOf 25 = 6 := by kernel_rfl
  obtain ⟨l⟩ := cs
  match l, hsz.trans hC with
  | [c0, c1, c2, c3, c4, c5], _ =>
    obtain ⟨fuel, hf⟩ := h
    obtain ⟨xs, n, _, -, -, hlen, hg⟩ := DataW.trod_struct hs hf
    match xs, hlen with
    | [y0, y1, y2, y3, y4, y5], _ =>
      obtain ⟨o0, k0⟩ := hone_of hone 0 f0 rfl
      rw [t0] at k0
      obtain ⟨o1, k1⟩ := hone_of hone 1 f1 rfl
      rw [t1] at k1
      obtain ⟨o2, k2⟩ := hone_of hone 2 f2 rfl
      rw [t2] at k2
      obtain ⟨o3, k3⟩ := hone_of hone 3 f3 rfl
      rw [t3] at k3
      obtain ⟨o4, k4⟩ := hone_of hone 4 f4 rfl
      rw [t4] at k4
      obtain ⟨o5, k5⟩ := hone_of hone 5 f5 rfl
      rw [t5] at k5
      have g0 := hg 0 f0 rfl
      simp [Value.cells, o0, t0, k0] at g0
      have g1 := hg 1 f1 rfl
      simp [Value.cells, o1, t1, k1] at g1
      have g2 := hg 2 f2 rfl
      simp [Value.cells, o2, t2, k2] at g2
      have g3 := hg 3 f3 rfl
      simp [Value.cells, o3, t3, k3] at g3
      have g4 := hg 4 f4 rfl
      simp [Value.cells, o4, t4, k4] at g4
      have g5 := hg 5 f5 rfl
      simp [Value.cells, o5, t5, k5] at g5
      obtain ⟨a0, e0, _, w0⟩ := DataW.trod_string Try.underlying9 g0
      obtain ⟨v1, l1, e1, w1⟩ := open_strs g1
      obtain ⟨v2, l2, e2, w2⟩ := open_strs g2
      obtain ⟨a3, e3, _, w3⟩ := DataW.trod_int Try.underlying3 g3
      obtain ⟨v4, l4, e4, w4⟩ := open_nds _ _ _ g4
      obtain ⟨a5, e5, _, w5⟩ := DataW.trod_int Try.underlying3 g5
      simp at e0 e1 e2 e3 e4 e5
      subst e0 e1 e2 e3 e4 e5
      exact ⟨n, a0, _, _, l1, l2, a3, _, a5, l4, rfl, w1, w2, w4⟩
set_option maxRecDepth 100000 in
theorem open_wld {H : Type} {enc : TypeId × Value → H} {w : World} {base : Nat} {spare : Nat → Bool} {held : Bool} {r : Reach} {b0 : Nat} {v : Value} {d : DataW H} {p : List MemPlace}
    (hv : Value.okWide Try.prog w r b0 27 v) (h : DataW.Trod enc Try.prog w base spare held 27 v d p) :
    ∃ (fv gv : Value) (F G : List ByteArray), v = .agg #[fv, gv] ∧ StrsX (· < w.heap.size) w fv F ∧ StrsX (· < w.heap.size) w gv G := by
  obtain ⟨f0, f1, hs, hone, t0, t1⟩ := world_fields
  obtain ⟨cs, rfl, hsz⟩ := okWide_struct hs hv
  have hC : Try.prog.cellsOf 27 = 2 := by kernel_rfl
  obtain ⟨l⟩ := cs
  match l, hsz.trans hC with
  | [c0, c1], _ =>
    obtain ⟨fuel, hf⟩ := h
    obtain ⟨xs, n, _, -, -, hlen, hg⟩ := DataW.trod_struct hs hf
    match xs, hlen with
    | [y0, y1], _ =>
      obtain ⟨o0, k0⟩ := hone_of hone 0 f0 rfl
      rw [t0] at k0
      obtain ⟨o1, k1⟩ := hone_of hone 1 f1 rfl
      rw [t1] at k1
      have g0 := hg 0 f0 rfl
      simp [Value.cells, o0, t0, k0] at g0
      have g1 := hg 1 f1 rfl
      simp [Value.cells, o1, t1, k1] at g1
      obtain ⟨v0, l0, e0, w0⟩ := open_strs g0
      obtain ⟨v1, l1, e1, w1⟩ := open_strs g1
      simp at e0 e1
      subst e0 e1
      exact ⟨_, _, l0, l1, rfl, w0, w1⟩
end Go.Proofs.Ytpfgidhchjcomaa
namespace Go.Proofs.Ytpfgidhchjcomaa.means
open Go.ChangeShapes Go.WideShapes Go.ChangeAt Go.RowKit
set_option linter.unusedVariables false
theorem own : ownKnob Try.prog.godebug = none := by kernel_rfl
theorem laidOut : laidOutB Try.prog = true := by kernel_rfl
set_option maxRecDepth 100000 in
theorem lifted (os : Os) (started : os.Started) (H : Type) (enc : TypeId × Value → H) :
    ReturnsInHanded {} Try.checked os 3 .any (Rows.foundlingMeansSpec.pre6 enc Try.prog Try.f3 Rows.foundlingMeansRow.domain false) (Rows.foundlingMeansSpec.post enc Try.prog Try.f3 false true false false) := by
  refine returnsInHanded_of_change (C := Try.checked) own started (by kernel_rfl) Try.func3
    (ChangeSpec.witness6 (enc := enc) (C := Try.checked) false ⟨#[], #[.agg #[.string ⟨#[]⟩, .slice none 0 0, .slice none 0 0, .int .i64 0, .slice none 0 0, .int .i64 0], .agg #[.slice none 0 0, .slice none 0 0]], []⟩ 8 (by kernel_rfl) (by kernel_rfl) (by kernel_rfl) (by kernel_rfl)) ?_
  intro W base args ds gs before hval0 hW hcnd _
  have hval : ∀ (j : Nat) t v, Try.f3.params[j]? = some t → args[j]? = some v → Value.okWide Try.prog W .any base t v := hval0
  have hW' := hW
  obtain ⟨p, q, hA0, hV, rfl, hfz, hnd⟩ := hW
  have hA : DataW.TrodAll enc Try.prog W 0 (fun _ => true) true Try.f3.params.toList args.toList ds p := hA0
  rw [Try.params3] at hA hval
  obtain ⟨v0, vs0, d0, ds0, p0, q0, hargs, rfl, rfl, h0, r0⟩ := trodAll_cons hA
  obtain ⟨v1, vs1, d1, ds1, p1, q1, rfl, rfl, rfl, h1, r1⟩ := trodAll_cons r0
  obtain ⟨rfl, rfl, rfl⟩ := trodAll_nil r1
  obtain rfl : args = #[v0, v1] := by cases args; simp_all
  obtain ⟨rfl, rfl⟩ := trodVars_none hV
  have k0 := h0
  have lt0 : ∀ x ∈ p0, x.block < W.heap.size := by obtain ⟨m, hm⟩ := k0; exact DataW.trod_lt m _ _ _ hm
  have k1 := h1
  have lt1 : ∀ x ∈ p1, x.block < W.heap.size := by obtain ⟨m, hm⟩ := k1; exact DataW.trod_lt m _ _ _ hm
  obtain ⟨D, nm, pv, tv, ps, ts, pr, bv, at_, l, rfl, hp, ht, hn⟩ := open_mth (hval 0 25 v0 rfl rfl) h0
  obtain ⟨fv, gv, F, G, rfl, hF, hG⟩ := open_wld (hval 1 27 v1 rfl rfl) h1
  clear hA0 hval0
  refine (walk D nm pv tv ps ts pr bv fv gv at_ l F G W hp ht hn hF hG).mono fun e W' ⟨he, bel⟩ => ?_
  subst he
  exact ⟨_, rfl, _, _, _, [], _, [], hW', trodAll_mk1 (shut_bool Try.underlying4 _), (trodAll_cons_mk (Below.trod laidOut (by kernel_rfl) (of_decide_eq_true (by kernel_rfl)) k0 bel lt0) (trodAll_cons_mk (Below.trod laidOut (by kernel_rfl) (of_decide_eq_true (by kernel_rfl)) k1 bel lt1) trodAll_mk0)), rfl, bel.frame _, fun h => by cases h⟩
theorem over : Rows.foundlingMeansRow.holds Try.pinned (OpenSpec.ofChange Rows.foundlingMeansSpec) :=
  OpenClaim.holds_of_wide 3 Try.f3 rfl rfl rfl rfl rfl rfl rfl ⟨rfl, rfl, rfl, rfl, rfl⟩ rfl rfl rfl rfl rfl (by kernel_rfl) Try.func3 (by kernel_rfl)
    (of_decide_eq_true (by kernel_rfl)) (by unfold Func.isWrapper; rw [if_neg (by decide +kernel)]; exact ⟨rfl, rfl⟩)
    (fun os started H enc _ => lifted os started H enc)
theorem proved : Rows.FoundlingMeansSaid := over
end Go.Proofs.Ytpfgidhchjcomaa.means
