/- PackBits: a set of numbers has what was set, counts it, and goes through it: for every size and acts. -/
import Derived.Test.YtmbfkagoiijjmaaDoorPackRef
import Derived.Test.YtmbfkagoiijjmaaDoorTie
import Derived.Test.YtmbfkagoiijjmaaDoorCards
import Derived.ChangeOld
import Derived.Deep.CutBlock
import Derived.Deep.Fields
import Derived.Deep.RegionHeld3
namespace Go.Proofs.YtmbfkagoiijjmaaDoor.packBits
open Go.Joins Go.ChangeShapes Go.WideShapes Go.ChangeAt Go.RowKit Go.Deep
set_option linter.unusedVariables false
set_option linter.unusedSimpArgs false
/-- a slice that reads as these acts -/
def ActsAt (w : World) (v : Value) (l : List (Int × Int × Bool)) : Prop := ∃ a cap, v = .slice a l.length cap ∧ l.length ≤ cap ∧ cap ≤ maxLen ∧
  ∀ i (hi : i < l.length), ∃ b o, a = some ⟨b, o, none⟩ ∧ b < w.heap.size ∧ w.cell? ⟨b, o + i * 3, none⟩ = some (.int .i64 l[i].1) ∧ w.cell? ⟨b, o + i * 3 + 1, none⟩ = some (.int .i64 l[i].2.1) ∧ w.cell? ⟨b, o + i * 3 + 2, none⟩ = some (.bool l[i].2.2) ∧
    (Lit.int .i64 l[i].1).wf = true ∧ (Lit.int .i64 l[i].2.1).wf = true
theorem ActsAt.later {w w' : World} {v : Value} {l : List (Int × Int × Bool)} (h : ActsAt w v l) (hb : Below w.heap.size w w') : ActsAt w' v l := by
  obtain ⟨a, cap, hv, h1, h2, h3⟩ := h
  refine ⟨a, cap, hv, h1, h2, fun i hi => ?_⟩
  obtain ⟨b, o, ha, hl, c0, c1, c2, w1, w2⟩ := h3 i hi
  have hs := hb.size
  exact ⟨b, o, ha, by omega, (hb.cell (p := ⟨b, o + i * 3, none⟩) hl).trans c0, (hb.cell (p := ⟨b, o + i * 3 + 1, none⟩) hl).trans c1, (hb.cell (p := ⟨b, o + i * 3 + 2, none⟩) hl).trans c2, w1, w2⟩
theorem act_fields : ∃ f0 f1 f2 : Field, Tryd.prog.underlying 69 = some (.struct #[f0, f1, f2]) ∧ oneCellFields Tryd.prog #[f0, f1, f2] = true ∧
    f0.type = 3 ∧ f1.type = 3 ∧ f2.type = 4 :=
  ⟨_, _, _, Tryd.underlying69, by kernel_rfl, rfl, rfl, rfl⟩
set_option maxRecDepth 100000 in
theorem open_act {H : Type} {enc : TypeId × Value → H} {w : World} {base : Nat} {spare : Nat → Bool} {held : Bool} {fuel : Nat} {cs : List Value} {x : DataW H × List MemPlace}
    (h : DataW.trod enc Tryd.prog w base spare held fuel 69 cs = some x) : ∃ (k n : Int) (b : Bool), cs = [.int .i64 k, .int .i64 n, .bool b] ∧ (Lit.int .i64 k).wf = true ∧ (Lit.int .i64 n).wf = true := by
  obtain ⟨f0, f1, f2, hs, hone, t0, t1, t2⟩ := act_fields
  have hC : Tryd.prog.cellsOf 69 = 3 := by kernel_rfl
  obtain ⟨xs, n, -, -, hlc, hlen, hg⟩ := DataW.trod_struct hs h
  match cs, hlc.trans hC with
  | [c0, c1, c2], _ =>
    match xs, hlen with
    | [y0, y1, y2], _ =>
      obtain ⟨o0, k0⟩ := hone_of hone 0 f0 rfl
      rw [t0] at k0
      obtain ⟨o1, k1⟩ := hone_of hone 1 f1 rfl
      rw [t1] at k1
      obtain ⟨o2, k2⟩ := hone_of hone 2 f2 rfl
      rw [t2] at k2
      have g0 := hg 0 f0 rfl
      have g1 := hg 1 f1 rfl
      have g2 := hg 2 f2 rfl
      simp [o0, t0, k0] at g0
      simp [o1, t1, k1] at g1
      simp [o2, t2, k2] at g2
      obtain ⟨a0, e0, _, w0⟩ := DataW.trod_int Tryd.underlying3 g0
      obtain ⟨a1, e1, _, w1⟩ := DataW.trod_int Tryd.underlying3 g1
      obtain ⟨a2, e2, _⟩ := DataW.trod_bool Tryd.underlying4 g2
      simp at e0 e1 e2
      subst e0 e1 e2
      exact ⟨a0, a1, a2, rfl, w0, w1⟩
set_option maxRecDepth 100000 in
theorem open_acts {H : Type} {enc : TypeId × Value → H} {w : World} {base : Nat} {spare : Nat → Bool} {held : Bool} {r : Reach} {b0 : Nat} {v : Value} {d : DataW H} {p : List MemPlace}
    (hv : Value.okWide Tryd.prog w r b0 63 v) (h : DataW.Trod enc Tryd.prog w base spare held 63 v d p) : ∃ l, ActsAt w v l := by
  obtain ⟨a, len, cap, rfl⟩ := okWide_slice Tryd.underlying63 hv
  obtain ⟨fuel, hf⟩ := h
  rcases open_slice Tryd.underlying63 hf with ⟨hcs, -⟩ | ⟨a', len', cap', m, n, D, Pl, hcs, hb, hl, hm, hmm, hx, hi⟩
  · simp [Value.cells] at hcs
    obtain ⟨rfl, rfl, rfl⟩ := hcs
    exact ⟨[], none, 0, rfl, Nat.le_refl _, by unfold maxLen; omega, fun i hi => by simp at hi⟩
  · simp [Value.cells] at hcs
    obtain ⟨rfl, rfl, rfl⟩ := hcs
    have hC : Tryd.prog.cellsOf 69 = 3 := by kernel_rfl
    rw [hC] at hi
    have hml : len ≤ m := by rw [hmm]; split <;> omega
    have key : ∀ i, ∃ y : Int × Int × Bool, i < len → w.cell? (a'.add (i * 3)) = some (.int .i64 y.1) ∧ w.cell? (a'.add (i * 3 + 1)) = some (.int .i64 y.2.1) ∧ w.cell? (a'.add (i * 3 + 2)) = some (.bool y.2.2) ∧ (Lit.int .i64 y.1).wf = true ∧ (Lit.int .i64 y.2.1).wf = true := fun i => by
      by_cases hil : i < len
      · obtain ⟨cs', h1, h2⟩ := hi i (by omega)
        obtain ⟨k, nn, bb, rfl, hk, hn⟩ := open_act h2
        obtain ⟨-, -, hc⟩ := World.cells?_some h1
        have c0 := hc 0 (by omega)
        have c1 := hc 1 (by omega)
        have c2 := hc 2 (by omega)
        rw [Go.Deep.add_add] at c0 c1 c2
        exact ⟨⟨k, nn, bb⟩, fun _ => ⟨c0, c1, c2, hk, hn⟩⟩
      · exact ⟨⟨0, 0, false⟩, fun h => absurd h hil⟩
    obtain ⟨f, hf'⟩ := Classical.skolem.1 key
    refine ⟨(List.range len).map f, some a', cap, by rw [List.length_map, List.length_range], by rw [List.length_map, List.length_range]; exact hl, hm, fun i hi' => ?_⟩
    have hil : i < len := by simpa using hi'
    obtain ⟨c0, c1, c2, w1, w2⟩ := hf' i hil
    have hlt := lt_of_cell (cell_plain c0)
    refine ⟨a'.block, a'.off, congrArg some (spot_plain (hf' 0 (by omega)).1), hlt, ?_⟩
    simp only [List.getElem_map, List.getElem_range]
    exact ⟨cell_plain c0, cell_plain c1, cell_plain c2, w1, w2⟩
theorem next_exists (N : Nat) (S : Nat → Bool) (i : Int) : ∃ r, IsNext N S i r := by
  have key : ∀ M, (∀ j : Nat, i ≤ (j : Int) → j < M → S j = false) ∨ ∃ k : Nat, k < M ∧ i ≤ (k : Int) ∧ S k = true ∧ ∀ j : Nat, i ≤ (j : Int) → j < k → S j = false := by
    intro M
    induction M with
    | zero => exact Or.inl fun j _ h => by omega
    | succ M ih =>
      rcases ih with h | ⟨k, h1, h2, h3, h4⟩
      · by_cases hM : i ≤ (M : Int) ∧ S M = true
        · exact Or.inr ⟨M, by omega, hM.1, hM.2, h⟩
        · refine Or.inl fun j h1 h2 => ?_
          by_cases hj : j = M
          · subst hj
            cases hs : S j with
            | false => rfl
            | true => exact absurd ⟨h1, hs⟩ hM
          · exact h j h1 (by omega)
      · exact Or.inr ⟨k, by omega, h2, h3, h4⟩
  rcases key N with h | ⟨k, h1, h2, h3, h4⟩
  · exact ⟨-1, Or.inl ⟨rfl, h⟩⟩
  · exact ⟨k, Or.inr ⟨k, rfl, h1, h2, h3, h4⟩⟩
/-- the program's set and the document's, beside each other -/
def Pair (w : World) (B g6 a6 N : Nat) (S T : Nat → Bool) : Prop := BitsAt w B (B + 1) N S ∧ RefAt w g6 N T ∧ w.heap[a6]? = some (.cells #[.slice (some ⟨g6, 0, none⟩) N N] 65 (0, 0))
theorem Pair.later {w w' : World} {B g6 a6 N : Nat} {S T : Nat → Bool} (h : Pair w B g6 a6 N S T) (hb : Below w.heap.size w w') : Pair w' B g6 a6 N S T :=
  ⟨h.1.later hb, h.2.1.later hb, by rw [hb.block a6 (Array.getElem?_eq_some_iff.1 h.2.2).1]; exact h.2.2⟩
theorem Pair.cell {w : World} {B g6 a6 N : Nat} {S T : Nat → Bool} (h : Pair w B g6 a6 N S T) : w.cell? ⟨a6, 0, none⟩ = some (.slice (some ⟨g6, 0, none⟩) N N) := (cellO h.2.2 0).trans rfl
theorem Pair.lt {w : World} {B g6 a6 N : Nat} {S T : Nat → Bool} (h : Pair w B g6 a6 N S T) : a6 < w.heap.size := (Array.getElem?_eq_some_iff.1 h.2.2).1
/-- an act of the call's own -/
def ActBox (w : World) (a : Nat) (k x : Int) (on : Bool) : Prop := w.heap[a]? = some (.cells #[.int .i64 k, .int .i64 x, .bool on] 69 (0, 0))
theorem ActBox.later {w w' : World} {a : Nat} {k x : Int} {on : Bool} (h : ActBox w a k x on) (hb : Below w.heap.size w w') : ActBox w' a k x on := by
  unfold ActBox; rw [hb.block a (Array.getElem?_eq_some_iff.1 h).1]; exact h
theorem ActBox.c0 {w : World} {a : Nat} {k x : Int} {on : Bool} (h : ActBox w a k x on) : w.cell? ⟨a, 0, none⟩ = some (.int .i64 k) := (cellO h 0).trans rfl
theorem ActBox.c1 {w : World} {a : Nat} {k x : Int} {on : Bool} (h : ActBox w a k x on) : w.cell? ⟨a, 1, none⟩ = some (.int .i64 x) := (cellO h 1).trans rfl
theorem ActBox.c2 {w : World} {a : Nat} {k x : Int} {on : Bool} (h : ActBox w a k x on) : w.cell? ⟨a, 2, none⟩ = some (.bool on) := (cellO h 2).trans rfl
theorem ActBox.lt {w : World} {a : Nat} {k x : Int} {on : Bool} (h : ActBox w a k x on) : a < w.heap.size := (Array.getElem?_eq_some_iff.1 h).1
theorem set_pair {W : World} {B g6 a6 a8 N : Nat} {S T : Nat → Bool} {k x : Int} {on : Bool} (hp : Pair W B g6 a6 N S T) (ha : ActBox W a8 k x on) (hB : B ≤ W.heap.size) :
    Calls Tryd.prog 28 #[.pointer (some ⟨B + 1, 0, none⟩), .int .i64 x, .bool on] W fun e w' => e = .returned (.bool (setB N S x on)) ∧ Pair w' B g6 a6 N (setS N S x on) T ∧ ActBox w' a8 k x on ∧ Below B W w' :=
  (set_keep B (B + 1) N S x on W hp.1 hB).mono fun e w' ⟨he, hb, hg, hk⟩ =>
    ⟨he, ⟨hb, hp.2.1.keeps hk (by decide), by rw [hk a6 _ _ _ hp.2.2 (by decide)]; exact hp.2.2⟩, by unfold ActBox; rw [hk a8 _ _ _ ha (by decide)]; exact ha, hg⟩
theorem rset_pair {W : World} {B g6 a6 a8 N : Nat} {S T : Nat → Bool} {k x : Int} {on : Bool} (hp : Pair W B g6 a6 N S T) (ha : ActBox W a8 k x on) (hg : B ≤ g6) (hB : B ≤ W.heap.size) :
    Calls Tryd.prog 35 #[.agg #[.slice (some ⟨g6, 0, none⟩) N N], .int .i64 x, .bool on] W fun e w' => e = .returned (.bool (setB N T x on)) ∧ Pair w' B g6 a6 N S (setS N T x on) ∧ ActBox w' a8 k x on ∧ Below B W w' :=
  (rset_any B g6 N T x on W hp.2.1 hg hB).mono fun e w' ⟨he, hb, hg, hk⟩ =>
    ⟨he, ⟨hp.1.keeps hk (by decide) (by decide), hb, by rw [hk a6 _ _ _ hp.2.2 (by decide)]; exact hp.2.2⟩, by unfold ActBox; rw [hk a8 _ _ _ ha (by decide)]; exact ha, hg⟩
theorem zsize_any (z : Nat) (w : World) (hc : w.cell? ⟨z, 0, none⟩ = some (.int .i64 0)) : Calls Tryd.prog 34 #[.pointer (some ⟨z, 0, none⟩)] w fun e w' => e = .returned (.int .i64 0) ∧ w' = w := by
  go_enter Tryd.func34, Tryd.ntmps34
  go_wp2_with fail
  go_ret
  exact ⟨rfl, rfl⟩
theorem znext_any (z : Nat) (w : World) (hc : w.cell? ⟨z, 0, none⟩ = some (.int .i64 0)) : Calls Tryd.prog 29 #[.pointer (some ⟨z, 0, none⟩), .int .i64 0] w fun e w' => e = .returned (.int .i64 (-1)) ∧ w' = w := by
  go_enter Tryd.func29, Tryd.ntmps29
  go_wp2_with fail
  go_ret
  exact ⟨rfl, rfl⟩
theorem zset_any (z : Nat) (w : World) (hc : w.cell? ⟨z, 0, none⟩ = some (.int .i64 0)) : Calls Tryd.prog 28 #[.pointer (some ⟨z, 0, none⟩), .int .i64 0, .bool true] w fun e w' => e = .returned (.bool false) ∧ w' = w := by
  have P := Lib.hid (place_no z 0 0 (by omega) w hc)
  go_enter Tryd.func28, Tryd.ntmps28
  go_wp2_with fail
  refine P.out.mono ?_
  rintro e w1 ⟨rfl, rfl⟩
  go_wp2_with fail
  go_ret
  exact ⟨rfl, rfl⟩
/-- a world behind w6 with another set of the call's own -/
def Tri (w6 W : World) (N b' : Nat) (T : Nat → Bool) : Prop := Below w6.heap.size w6 W ∧ BitsAt W w6.heap.size b' N T
theorem Tri.step {w6 W w' : World} {N b' : Nat} {T : Nat → Bool} (h : Tri w6 W N b' T) (hb : Below W.heap.size W w') : Tri w6 w' N b' T := ⟨h.1.trans (hb.mono h.1.size), h.2.later hb⟩
set_option maxRecDepth 100000 in
set_option maxHeartbeats 2000000 in
theorem walk (n : Int) (lv : Value) (acts : List (Int × Int × Bool)) (w : World) (hl : ActsAt w lv acts) (hT : TabAt 0 Lib.deBruijn64tab w) :
    Calls Tryd.prog 7 #[.int .i64 n, lv] w fun e w' => e = .returned (.bool true) ∧ Below w.heap.size w w' := by
  have HL := Lib.hid hl; have HT := Lib.hid hT
  obtain ⟨la, lcap, rfl, lc1, lc2, -⟩ := hl
  clear hT
  unfold maxLen at lc2
  obtain ⟨m, hm⟩ : ∃ m : Int, max (-1) (min n 400) = m := ⟨_, rfl⟩
  have hm1 : -1 ≤ m := by omega
  have hm2 : m ≤ 400 := by omega
  obtain ⟨N, hN⟩ : ∃ N : Nat, m.toNat = N := ⟨_, rfl⟩
  have hN4 : N ≤ 400 := by omega
  have hsz : sizeZ m = N := by unfold sizeZ; omega
  have NB := Lib.hid (fun W => newBits_any m W)
  have RB := Lib.hid (fun W => rnew_any m (by omega) W)
  rw [hsz] at NB
  rw [hN] at RB
  simp only [refV] at RB
  have HN := Lib.hid hN
  clear hsz hN
  go_enter Tryd.func7, Tryd.ntmps7
  go_wp2_with fail
  refine (awake_any _ HT.out).mono ?_
  rintro e w1 ⟨rfl, hg⟩
  have HT1 := Lib.hid (tab_later HT.out hg)
  have HL1 := Lib.hid (HL.out.later hg)
  have HG1 := Lib.hid hg; clear hg
  go_wp2_with fail
  refine (NB.out w1).mono ?_
  rintro e w2 ⟨rfl, hb, hg⟩
  have HB2 := Lib.hid hb; have HG2 := Lib.hid hg; clear hb hg
  go_wp2_with fail
  refine (RB.out w2).mono ?_
  rintro e w3 ⟨g6, rfl, hg6, hr3, hg3⟩
  have HB3 := Lib.hid (HB2.out.later hg3); have HG3 := Lib.hid (HG2.out.trans (hg3.mono HG2.out.size)); have HR3 := Lib.hid hr3
  have hs3 := hg3.size
  have hs2 := HG2.out.size
  clear hg3 hr3
  have hp4 : Pair (w3.alloc (.cells #[.slice (some ⟨g6, 0, none⟩) N N] 65)) w1.heap.size g6 w3.heap.size N (fun _ => false) (fun _ => false) :=
    ⟨HB3.out.later ((Below.refl _ w3).alloc (Nat.le_refl _) _), HR3.out.later ((Below.refl _ w3).alloc (Nat.le_refl _) _), heap_alloc_new w3 _⟩
  have hg4 := HG3.out.alloc HG3.out.size (.cells #[.slice (some ⟨g6, 0, none⟩) N N] 65)
  have hg1 := HG3.out.size
  have hB6 : w1.heap.size ≤ g6 := by omega
  have hs4 : w1.heap.size ≤ (w3.alloc (.cells #[.slice (some ⟨g6, 0, none⟩) N N] 65)).heap.size := hg4.size
  have HTL := Lib.hid (fun wr (hw : Below w1.heap.size w1 wr) => tab_later HT1.out hw)
  have HLL := Lib.hid (fun wr (hw : Below w1.heap.size w1 wr) => HL1.out.later hw)
  have HGL := Lib.hid (fun wr (hw : Below w1.heap.size w1 wr) => HG1.out.trans (hw.mono HG1.out.size))
  have HSZ := Lib.hid (fun wr (hw : Below w1.heap.size w1 wr) => hw.size)
  go_wp2_with fail
  generalize hw4 : w3.alloc (.cells #[.slice (some ⟨g6, 0, none⟩) N N] 65) = w4 at *
  generalize ha6 : w3.heap.size = a6 at *
  generalize hBB : w1.heap.size = B at *
  have HW4 := Lib.hid hw4; have HA6 := Lib.hid ha6; have HBB := Lib.hid hBB
  clear hw4 ha6 hBB HR3 HB3 HG3 HB2 HG2 NB RB hg6 hs2 hs3 hg1
  have hc6 := hp4.cell
  have hl6 := hp4.lt
  have Z := Lib.hid (fun W (hW : Below w4.heap.size w4 W) => (size_any B (B + 1) N _ W (hp4.1.later hW)).mono fun e w' h => show _ ∧ Below W.heap.size W w' from ⟨h.1, h.2 ▸ Below.refl _ _⟩)
  (refine wp_region_later (by kernel_rfl) (by kernel_rfl) ?_; (repeat (go_big_quiet_step (((go_at_call 34; with_reducible exact calls_later_if Z.out))))); refine wpQuiet_nil ?_; intro w5 hw4; have hg := later_elim hw4; clear hw4)
  have hp5 := hp4.later hg
  have hg5 := hg4.trans (hg.mono hs4)
  clear hp4 hc6 hl6 Z hg hg4 hs4
  have HP5 := Lib.hid hp5; have HG5 := Lib.hid hg5; clear hp5 hg5
  go_upto_block 0 with fail
  go_cut [4, 7, 8, 9, 10, 11] from 28 to 142 (fun s4 s7 s8 s9 s10 s11 wr => ∃ S, Pair wr B g6 a6 N S S ∧ Below B w1 wr)
  case first =>
    go_wp2_with fail
    go_loopg [7] 60 (fun gg s7 wr => ∃ (k : Nat) (S : Nat → Bool), gg = 60 - k ∧ k ≤ 60 ∧ s7 = .int .i64 k ∧ Pair wr B g6 a6 N S S ∧ Below B w1 wr)
    case atStart => exact ⟨0, _, rfl, by omega, rfl, HP5.out, HG5.out⟩
    case round =>
      obtain ⟨k, S, hgk, hk, rfl, hp, hg⟩ := hrel
      have HK := Lib.hid hgk; clear hgk
      by_cases hgo : k < acts.length ∧ k < 60
      · obtain ⟨hgo1, hgo2⟩ := hgo
        obtain ⟨la', lcap', hla', -, -, hcc⟩ := HLL.out wr hg
        injection hla' with hla1 hla2 hla3
        subst hla1 hla3
        obtain ⟨cb, co, hca, hcl, hc0, hc1, hc2, hcw1, hcw2⟩ := hcc k hgo1
        subst hca
        have bx1 := bounds_i64 hcw1
        have bx2 := bounds_i64 hcw2
        clear hcc hcw1 hcw2 hla2
        generalize acts[k] = act at *
        obtain ⟨kd, x, on⟩ := act
        simp only at hc0 hc1 hc2 bx1 bx2
        have HP := Lib.hid hp; have HG := Lib.hid hg; clear hp hg
        go_upto_region 11 with fail
        have hp6 := HP.out.later ((Below.refl _ wr).alloc (Nat.le_refl _) (.cells #[.int .i64 kd, .int .i64 x, .bool on] 69))
        have ha8 : ActBox (wr.alloc (.cells #[.int .i64 kd, .int .i64 x, .bool on] 69)) wr.heap.size kd x on := heap_alloc_new wr _
        have hg6 := HG.out.alloc (HSZ.out wr HG.out) (.cells #[.int .i64 kd, .int .i64 x, .bool on] 69)
        generalize wr.alloc (.cells #[.int .i64 kd, .int .i64 x, .bool on] 69) = w6 at *
        generalize ha8' : wr.heap.size = a8 at *
        clear ha8' hc0 hc1 hc2 hcl HP HG
        have hB6' : B ≤ w6.heap.size := HSZ.out w6 hg6
        have hl8 := ha8.lt
        have hl6 := hp6.lt
        have d0 := ha8.c0; have d1 := ha8.c1; have d2 := ha8.c2; have d6 := hp6.cell
        have HP6 := Lib.hid hp6; have HA8 := Lib.hid ha8; have HG6 := Lib.hid hg6
        clear hp6 ha8 hg6
        by_cases k0 : kd = 0
        · subst k0
          have hpd : Pair w6.drew B g6 a6 N S S := HP6.out
          have had : ActBox w6.drew a8 0 x on := HA8.out
          have hgd : Below B w1 w6.drew := HG6.out.drew
          have hsd : B ≤ w6.drew.heap.size := hB6'
          have q5 : (setB N S x on == setB N S x on) = true := beq_self_eq_true _
          go_upto_region 17 with fail
          go_region_held3 (fun w' => w'.cell? ⟨a8, 1, none⟩ = some (.int .i64 x) ∧ w'.cell? ⟨a8, 2, none⟩ = some (.bool on) ∧ w'.cell? ⟨a6, 0, none⟩ = some (.slice (some ⟨g6, 0, none⟩) N N)) (first | exact ⟨ActBox.c1 (by assumption), ActBox.c2 (by assumption), Pair.cell (by assumption)⟩) (first
            | (go_at_call 28; refine (set_pair (by assumption) (by assumption) (by assumption)).mono ?_; rintro e w7 ⟨rfl, hp7, ha7, hg7⟩; have hs7 := Nat.le_trans (by assumption) hg7.size; have hd7 : Below B w1 w7 := Below.trans (by assumption) hg7)
            | (go_at_call 35; refine (rset_pair (by assumption) (by assumption) hB6 (by assumption)).mono ?_; rintro e w7 ⟨rfl, hp7, ha7, hg7⟩; have hs7 := Nat.le_trans (by assumption) hg7.size; have hd7 : Below B w1 w7 := Below.trans (by assumption) hg7))
          all_goals (
            have HPE := Lib.hid hp7
            have HGE := Lib.hid hd7
            go_wp2_with fail
            go_roundg (60 - (k + 1))
            case measure => rw [HK.out]; omega
            case rel => exact ⟨k + 1, setS N S x on, rfl, by omega, by go_num, HPE.out, HGE.out⟩)
        have q0 : (kd == 0) = false := by rw [beq_eq_false_iff_ne]; exact k0
        by_cases k1 : kd = 1
        · subst k1
          have C1 := Lib.hid (fun W (hW : Below w6.heap.size w6 W) => has_any B (B + 1) N S x W (HP6.out.later hW).1)
          have C2 := Lib.hid (fun W (hW : Below w6.heap.size w6 W) => rhas_any g6 N S x W (HP6.out.later hW).2.1)
          simp only [refV] at C2
          generalize (decide (0 ≤ x) && S x.toNat) = vh at *
          have q5 : (vh == vh) = true := beq_self_eq_true _
          go_upto_region 19 with fail
          (refine wp_region_later (by kernel_rfl) (by kernel_rfl) ?_; (repeat (go_big_quiet_step (((first | (go_at_call 36; with_reducible exact calls_later_if C1.out) | (go_at_call 37; with_reducible exact calls_later_if C2.out)))))); refine wpQuiet_nil ?_; intro w7 hw4; have hg := later_elim hw4; clear hw4)
          have HPE := Lib.hid (HP6.out.later hg)
          have HGE := Lib.hid (HG6.out.trans (hg.mono hB6'))
          clear hg
          go_wp2_with fail
          go_roundg (60 - (k + 1))
          case measure => rw [HK.out]; omega
          case rel => exact ⟨k + 1, S, rfl, by omega, by go_num, HPE.out, HGE.out⟩
        have q1 : (kd == 1) = false := by rw [beq_eq_false_iff_ne]; exact k1
        by_cases k2 : kd = 2
        · subst k2
          obtain ⟨r, hr⟩ := next_exists N S x
          have C1 := Lib.hid (fun W (hW : Below w6.heap.size w6 W) => (next_any B (B + 1) N S x W (HP6.out.later hW).1 (HTL.out W (HG6.out.trans (hW.mono hB6')))).mono fun e w' h => show e = .returned (.int .i64 r) ∧ Below W.heap.size W w' from by
            obtain ⟨r', rfl, hr', rfl⟩ := h
            rw [hr'.unique hr]; exact ⟨rfl, Below.refl _ _⟩)
          have C2 := Lib.hid (fun W (hW : Below w6.heap.size w6 W) => (rnext_any g6 N S x W (HP6.out.later hW).2.1).mono fun e w' h => show e = .returned (.int .i64 r) ∧ Below W.heap.size W w' from by
            obtain ⟨r', rfl, hr', hb⟩ := h
            rw [hr'.unique hr]; exact ⟨rfl, hb⟩)
          simp only [refV] at C2
          clear hr
          have q5 : (r == r) = true := beq_self_eq_true _
          go_upto_region 21 with fail
          (refine wp_region_later (by kernel_rfl) (by kernel_rfl) ?_; (repeat (go_big_quiet_step (((first | (go_at_call 29; with_reducible exact calls_later_if C1.out) | (go_at_call 38; with_reducible exact calls_later_if C2.out)))))); refine wpQuiet_nil ?_; intro w7 hw4; have hg := later_elim hw4; clear hw4)
          have HPE := Lib.hid (HP6.out.later hg)
          have HGE := Lib.hid (HG6.out.trans (hg.mono hB6'))
          clear hg
          go_wp2_with fail
          go_roundg (60 - (k + 1))
          case measure => rw [HK.out]; omega
          case rel => exact ⟨k + 1, S, rfl, by omega, by go_num, HPE.out, HGE.out⟩
        have q2 : (kd == 2) = false := by rw [beq_eq_false_iff_ne]; exact k2
        by_cases k3 : kd = 3
        · subst k3
          have C1 := Lib.hid (fun W (hW : Below w6.heap.size w6 W) => (below_any B (B + 1) N S x W (HP6.out.later hW).1).mono fun e w' h => show _ ∧ Below W.heap.size W w' from ⟨h.1, h.2 ▸ Below.refl _ _⟩)
          have C2 := Lib.hid (fun W (hW : Below w6.heap.size w6 W) => rbelow_any g6 N S x W (HP6.out.later hW).2.1)
          simp only [refV] at C2
          generalize cnt S (clipN N x) = c at *
          have q5 : ((c : Int) == (c : Int)) = true := beq_self_eq_true _
          go_upto_region 23 with fail
          (refine wp_region_later (by kernel_rfl) (by kernel_rfl) ?_; (repeat (go_big_quiet_step (((first | (go_at_call 30; with_reducible exact calls_later_if C1.out) | (go_at_call 39; with_reducible exact calls_later_if C2.out)))))); refine wpQuiet_nil ?_; intro w7 hw4; have hg := later_elim hw4; clear hw4)
          have HPE := Lib.hid (HP6.out.later hg)
          have HGE := Lib.hid (HG6.out.trans (hg.mono hB6'))
          clear hg
          go_wp2_with fail
          go_roundg (60 - (k + 1))
          case measure => rw [HK.out]; omega
          case rel => exact ⟨k + 1, S, rfl, by omega, by go_num, HPE.out, HGE.out⟩
        have q3 : (kd == 3) = false := by rw [beq_eq_false_iff_ne]; exact k3
        have CB := Lib.hid (clone_bits B (B + 1) N S w6 HP6.out.1)
        go_upto_region 14 with (first | (go_at_call 31; refine CB.out.mono ?_; rintro e w7 ⟨b', rfl, hc7, hg7⟩))
        obtain ⟨vh, hvh⟩ : ∃ vh, vh = (decide (0 ≤ x) && S x.toNat) := ⟨_, rfl⟩
        obtain ⟨tb, htb⟩ : ∃ tb, tb = setB N S x (!vh) := ⟨_, rfl⟩
        have hcase : (decide (0 ≤ x) = true ∧ decide (x < (N : Int)) = true ∧ tb = true ∧ ¬ S = setS N S x (!vh)) ∨ (decide (0 ≤ x) = true ∧ decide (x < (N : Int)) = false ∧ tb = false ∧ S = setS N S x (!vh)) ∨ (decide (0 ≤ x) = false ∧ tb = false ∧ S = setS N S x (!vh)) := by
          by_cases h0 : 0 ≤ x
          · by_cases h1 : x < (N : Int)
            · refine Or.inl ⟨decide_eq_true h0, decide_eq_true h1, ?_, fun h => ?_⟩
              · rw [htb, hvh]; unfold setB; rw [decide_eq_true ⟨h0, h1⟩, decide_eq_true h0]; cases S x.toNat <;> rfl
              · have := congrFun h x.toNat
                unfold setS at this
                rw [if_pos ⟨h0, h1, rfl⟩, hvh, decide_eq_true h0] at this
                cases hs : S x.toNat <;> rw [hs] at this <;> cases this
            · refine Or.inr (Or.inl ⟨decide_eq_true h0, decide_eq_false h1, ?_, (setS_out (fun h => h1 h.2)).symm⟩)
              rw [htb]; unfold setB; rw [decide_eq_false (fun h => h1 h.2)]; rfl
          · refine Or.inr (Or.inr ⟨decide_eq_false h0, ?_, (setS_out (fun h => h0 h.1)).symm⟩)
            rw [htb]; unfold setB; rw [decide_eq_false (fun h => h0 h.1)]; rfl
        have hsame : ∀ r : Bool, (r = true ↔ N = N ∧ S = setS N S x (!vh)) → r = !tb := fun r hr => by
          rcases hcase with ⟨-, -, h1, h2⟩ | ⟨-, -, h1, h2⟩ | ⟨-, h1, h2⟩
          · rw [h1]; cases hrr : r with
            | false => rfl
            | true => exact absurd (hr.1 hrr).2 h2
          · rw [h1]; exact hr.2 ⟨rfl, h2⟩
          · rw [h1]; exact hr.2 ⟨rfl, h2⟩
        have HCASE := Lib.hid (show (decide (0 ≤ x) = true ∧ decide (x < (N : Int)) = true ∧ tb = true) ∨ (decide (0 ≤ x) = true ∧ decide (x < (N : Int)) = false ∧ tb = false) ∨ (decide (0 ≤ x) = false ∧ decide (0 ≤ x) = false ∧ tb = false) from by
          rcases hcase with ⟨h1, h2, h3, -⟩ | ⟨h1, h2, h3, -⟩ | ⟨h1, h2, -⟩
          · exact Or.inl ⟨h1, h2, h3⟩
          · exact Or.inr (Or.inl ⟨h1, h2, h3⟩)
          · exact Or.inr (Or.inr ⟨h1, h1, h2⟩))
        have TC := Lib.hid (fun W T (h : Tri w6 W N b' T) => show W.cell? ⟨a8, 1, none⟩ = some (.int .i64 x) ∧ W.cell? ⟨a6, 0, none⟩ = some (.slice (some ⟨g6, 0, none⟩) N N) from ⟨(HA8.out.later h.1).c1, (HP6.out.later h.1).cell⟩)
        have TH := Lib.hid (fun W T (h : Tri w6 W N b' T) => (rhas_any g6 N S x W (HP6.out.later h.1).2.1).mono fun e w' q => show e = .returned (.bool vh) ∧ Tri w6 w' N b' T from ⟨by rw [q.1, hvh], h.step q.2⟩)
        simp only [refV] at TH
        have TB := Lib.hid (fun W T (h : Tri w6 W N b' T) => (has_any B (B + 1) N S x W (HP6.out.later h.1).1).mono fun e w' q => show e = .returned (.bool vh) ∧ Tri w6 w' N b' T from ⟨by rw [q.1, hvh], h.step q.2⟩)
        have TS := Lib.hid (fun W (h : Tri w6 W N b' S) => (set_any w6.heap.size b' N S x (!vh) W h.2 h.1.size).mono fun e w' q => show e = .returned (.bool tb) ∧ Tri w6 w' N b' (setS N S x (!vh)) from ⟨by rw [q.1, htb], h.1.trans q.2.2, q.2.1⟩)
        have TE := Lib.hid (fun W (h : Tri w6 W N b' (setS N S x (!vh))) => (same_any B (B + 1) N _ b' N S _ W (HP6.out.later h.1).1 h.2).mono fun e w' q => show e = .returned (.bool (!tb)) ∧ Tri w6 w' N b' (setS N S x (!vh)) from by
          obtain ⟨r, rfl, hr, hb⟩ := q
          exact ⟨by rw [hsame r hr], h.step hb⟩)
        have TN := Lib.hid (fun W T (h : Tri w6 W N b' T) => (newBits_any 401 W).mono fun e w' q => show ∃ bb, e = .returned (.pointer (some ⟨bb, 0, none⟩)) ∧ Tri w6 w' N b' T ∧ BitsAt w' W.heap.size bb 401 (fun _ => false) from
          ⟨_, q.1, h.step q.2.2, q.2.1⟩)
        have TF := Lib.hid (fun W T Bx bb (h : Tri w6 W N b' T) (hb : BitsAt W Bx bb 401 (fun _ => false)) => (same_any B (B + 1) N _ bb 401 S _ W (HP6.out.later h.1).1 hb).mono fun e w' q => show e = .returned (.bool false) ∧ Tri w6 w' N b' T from by
          obtain ⟨r, rfl, hr, hb⟩ := q
          refine ⟨?_, h.step hb⟩
          cases hrr : r with
          | false => rfl
          | true => have := (hr.1 hrr).1; omega)
        have ht7 : Tri w6 w7.drew N b' S := ⟨hg7.drew, hc7⟩
        have q5 : (vh == vh) = true := beq_self_eq_true _
        clear hcase hsame htb hvh CB hc7 hg7 d0 d1 d2 d6 hl8 hl6
        go_region_held3 (fun w' => w'.cell? ⟨a8, 1, none⟩ = some (.int .i64 x) ∧ w'.cell? ⟨a6, 0, none⟩ = some (.slice (some ⟨g6, 0, none⟩) N N)) (first | exact TC.out _ _ (by assumption)) (first
          | (go_at_call 37; refine (TH.out _ _ (by assumption)).mono ?_; rintro e w8 ⟨rfl, ht8⟩)
          | (go_at_call 28; refine (TS.out _ (by assumption)).mono ?_; rintro e w8 ⟨rfl, ht8⟩))
        go_upto_region 15 with fail
        have ht9 : Tri w6 w8.drew N b' (setS N S x (!vh)) := ⟨ht8.1.drew, ht8.2⟩
        clear ht7
        generalize setS N S x (!vh) = T1 at *
        rcases HCASE.out with ⟨qa, qb, rfl⟩ | ⟨qa, qb, rfl⟩ | ⟨qa, qb, rfl⟩
        · clear HCASE
          go_region_held3 (fun w' => w'.cell? ⟨a8, 1, none⟩ = some (.int .i64 x) ∧ w'.cell? ⟨a6, 0, none⟩ = some (.slice (some ⟨g6, 0, none⟩) N N)) (first | exact TC.out _ _ (by assumption)) (first
            | (go_at_call 37; refine (TH.out _ _ (by assumption)).mono ?_; rintro e w9 ⟨rfl, ht⟩)
            | (go_at_call 36; refine (TB.out _ _ (by assumption)).mono ?_; rintro e w9 ⟨rfl, ht⟩)
            | (go_at_call 27; refine (TN.out _ _ (by assumption)).mono ?_; rintro e w9 ⟨bb, rfl, ht, hbb⟩)
            | (go_at_call_of 32 b'; refine (TE.out _ (by assumption)).mono ?_; rintro e w9 ⟨rfl, ht⟩)
            | (go_at_call 32; refine (TF.out _ _ _ _ (by assumption) (by assumption)).mono ?_; rintro e w9 ⟨rfl, ht⟩))
          all_goals (
            have ht' := ht
            have HPE := Lib.hid (HP6.out.later ht'.1)
            have HGE := Lib.hid (HG6.out.trans (ht'.1.mono hB6'))
            go_wp2_with fail
            go_roundg (60 - (k + 1))
            case measure => rw [HK.out]; omega
            case rel => exact ⟨k + 1, S, rfl, by omega, by go_num, HPE.out, HGE.out⟩)
        · clear HCASE
          go_region_held3 (fun w' => w'.cell? ⟨a8, 1, none⟩ = some (.int .i64 x) ∧ w'.cell? ⟨a6, 0, none⟩ = some (.slice (some ⟨g6, 0, none⟩) N N)) (first | exact TC.out _ _ (by assumption)) (first
            | (go_at_call 37; refine (TH.out _ _ (by assumption)).mono ?_; rintro e w9 ⟨rfl, ht⟩)
            | (go_at_call 36; refine (TB.out _ _ (by assumption)).mono ?_; rintro e w9 ⟨rfl, ht⟩)
            | (go_at_call 27; refine (TN.out _ _ (by assumption)).mono ?_; rintro e w9 ⟨bb, rfl, ht, hbb⟩)
            | (go_at_call_of 32 b'; refine (TE.out _ (by assumption)).mono ?_; rintro e w9 ⟨rfl, ht⟩)
            | (go_at_call 32; refine (TF.out _ _ _ _ (by assumption) (by assumption)).mono ?_; rintro e w9 ⟨rfl, ht⟩))
          all_goals (
            have ht' := ht
            have HPE := Lib.hid (HP6.out.later ht'.1)
            have HGE := Lib.hid (HG6.out.trans (ht'.1.mono hB6'))
            go_wp2_with fail
            go_roundg (60 - (k + 1))
            case measure => rw [HK.out]; omega
            case rel => exact ⟨k + 1, S, rfl, by omega, by go_num, HPE.out, HGE.out⟩)
        · clear HCASE
          refine wp_region_held_drew (S := fun w' => w'.cell? ⟨a8, 1, none⟩ = some (.int .i64 x) ∧ w'.cell? ⟨a6, 0, none⟩ = some (.slice (some ⟨g6, 0, none⟩) N N)) (by kernel_rfl) (TC.out _ _ ht9) (fun hHeld => ?_)
          refine wpAnyH_take (i := 0) (oi := ({ dst := some 55, op := Op.move (Operand.tmp 11), type := 4, pos := "law.go:124", after := #[], guard := none } : Oper)) (v := ?_) rfl (by kernel_rfl) (by kernel_rfl) (by kernel_rfl) (fun _ _ _ h => h) (Or.inl ⟨by rfl, ?_⟩) (by assumption) ?_
          rotate_left
          · intro w hSw; (try dsimp only at hSw); go_simp; (try with_reducible rfl)
          try simp only [Act.put, List.setIfInBounds_toArray, List.set_cons_zero, List.set_cons_succ]
          refine wpAnyH_take (i := 1) (oi := ({ dst := some 56, op := Op.fieldAddr 69 (Operand.tmp 8) 1, type := 0, pos := "law.go:124", after := #[], guard := none } : Oper)) (v := ?_) rfl (by kernel_rfl) (by kernel_rfl) (by kernel_rfl) (fun _ _ _ h => h) (Or.inl ⟨by rfl, ?_⟩) (by assumption) ?_
          rotate_left
          · intro w hSw; (try dsimp only at hSw); go_simp; (try with_reducible rfl)
          try simp only [Act.put, List.setIfInBounds_toArray, List.set_cons_zero, List.set_cons_succ]
          refine wpAnyH_take (i := 2) (oi := ({ dst := some 57, op := Op.load 3 (Operand.tmp 56), type := 3, pos := "law.go:124", after := #[{ on := 1, ground := Ground.data }], guard := none } : Oper)) (v := ?_) rfl (by kernel_rfl) (by kernel_rfl) (by kernel_rfl) (fun _ _ _ h => h) (Or.inl ⟨by rfl, ?_⟩) (by assumption) ?_
          rotate_left
          · intro w hSw; (try dsimp only at hSw); go_simp; (try with_reducible rfl)
          try simp only [Act.put, List.setIfInBounds_toArray, List.set_cons_zero, List.set_cons_succ]
          refine wpAnyH_take (i := 3) (oi := ({ dst := some 58, op := Op.binOp BinOp.geq 3 (Operand.tmp 57) (Operand.const (Value.int IntKind.i64 0)) 3, type := 4, pos := "law.go:124", after := #[{ on := 2, ground := Ground.data }], guard := none } : Oper)) (v := ?_) rfl (by kernel_rfl) (by kernel_rfl) (by kernel_rfl) (fun _ _ _ h => h) (Or.inl ⟨by rfl, ?_⟩) (by assumption) ?_
          rotate_left
          · intro w hSw; (try dsimp only at hSw); go_simp; (try with_reducible rfl)
          try simp only [Act.put, List.setIfInBounds_toArray, List.set_cons_zero, List.set_cons_succ]
          refine wpAnyH_take (i := 4) (oi := ({ dst := some 59, op := Op.move (Operand.tmp 58), type := 4, pos := "law.go:124", after := #[{ on := 3, ground := Ground.data }], guard := none } : Oper)) (v := ?_) rfl (by kernel_rfl) (by kernel_rfl) (by kernel_rfl) (fun _ _ _ h => h) (Or.inl ⟨by rfl, ?_⟩) (by assumption) ?_
          rotate_left
          · intro w hSw; (try dsimp only at hSw); go_simp; (try with_reducible rfl)
          try simp only [Act.put, List.setIfInBounds_toArray, List.set_cons_zero, List.set_cons_succ]
          refine wpAnyH_take (i := 5) (oi := ({ dst := some 60, op := Op.fieldAddr 69 (Operand.tmp 8) 1, type := 0, pos := "law.go:124", after := #[{ on := 4, ground := Ground.guard }], guard := some (4, true) } : Oper)) (v := undef) rfl (by kernel_rfl) (by kernel_rfl) (by kernel_rfl) (fun _ _ _ h => h) (Or.inr ⟨by rfl, rfl⟩) (by assumption) ?_
          try simp only [Act.put, List.setIfInBounds_toArray, List.set_cons_zero, List.set_cons_succ]
          refine wpAnyH_take (i := 6) (oi := ({ dst := some 61, op := Op.load 3 (Operand.tmp 60), type := 3, pos := "law.go:124", after := #[{ on := 5, ground := Ground.data }, { on := 4, ground := Ground.guard }], guard := some (4, true) } : Oper)) (v := undef) rfl (by kernel_rfl) (by kernel_rfl) (by kernel_rfl) (fun _ _ _ h => h) (Or.inr ⟨by rfl, rfl⟩) (by assumption) ?_
          try simp only [Act.put, List.setIfInBounds_toArray, List.set_cons_zero, List.set_cons_succ]
          refine wpAnyH_take (i := 7) (oi := ({ dst := some 62, op := Op.fieldAddr 65 (Operand.tmp 6) 0, type := 0, pos := "law.go:124", after := #[{ on := 4, ground := Ground.guard }], guard := some (4, true) } : Oper)) (v := undef) rfl (by kernel_rfl) (by kernel_rfl) (by kernel_rfl) (fun _ _ _ h => h) (Or.inr ⟨by rfl, rfl⟩) (by assumption) ?_
          try simp only [Act.put, List.setIfInBounds_toArray, List.set_cons_zero, List.set_cons_succ]
          refine wpAnyH_take (i := 8) (oi := ({ dst := some 63, op := Op.load 57 (Operand.tmp 62), type := 57, pos := "law.go:124", after := #[{ on := 7, ground := Ground.data }, { on := 4, ground := Ground.guard }], guard := some (4, true) } : Oper)) (v := undef) rfl (by kernel_rfl) (by kernel_rfl) (by kernel_rfl) (fun _ _ _ h => h) (Or.inr ⟨by rfl, rfl⟩) (by assumption) ?_
          try simp only [Act.put, List.setIfInBounds_toArray, List.set_cons_zero, List.set_cons_succ]
          refine wpAnyH_take (i := 9) (oi := ({ dst := some 64, op := Op.call { callee := Callee.builtin Builtin.len, args := #[Operand.tmp 63], argTypes := #[57] }, type := 3, pos := "law.go:124", after := #[{ on := 8, ground := Ground.data }, { on := 4, ground := Ground.guard }], guard := some (4, true) } : Oper)) (v := undef) rfl (by kernel_rfl) (by kernel_rfl) (by kernel_rfl) (fun _ _ _ h => h) (Or.inr ⟨by rfl, rfl⟩) (by assumption) ?_
          try simp only [Act.put, List.setIfInBounds_toArray, List.set_cons_zero, List.set_cons_succ]
          refine wpAnyH_take (i := 10) (oi := ({ dst := some 65, op := Op.binOp BinOp.lss 3 (Operand.tmp 61) (Operand.tmp 64) 3, type := 4, pos := "law.go:124", after := #[{ on := 6, ground := Ground.data }, { on := 9, ground := Ground.data }, { on := 4, ground := Ground.guard }], guard := some (4, true) } : Oper)) (v := undef) rfl (by kernel_rfl) (by kernel_rfl) (by kernel_rfl) (fun _ _ _ h => h) (Or.inr ⟨by rfl, rfl⟩) (by assumption) ?_
          try simp only [Act.put, List.setIfInBounds_toArray, List.set_cons_zero, List.set_cons_succ]
          refine wpAnyH_take (i := 11) (oi := ({ dst := some 66, op := Op.pick (Operand.tmp 59) (Operand.tmp 65) (Operand.const (Value.bool false)), type := 4, pos := "law.go:124", after := #[{ on := 4, ground := Ground.data }, { on := 10, ground := Ground.data }], guard := none } : Oper)) (v := ?_) rfl (by kernel_rfl) (by kernel_rfl) (by kernel_rfl) (fun _ _ _ h => h) (Or.inl ⟨by rfl, ?_⟩) (by assumption) ?_
          rotate_left
          · intro w hSw; (try dsimp only at hSw); go_simp; (try with_reducible rfl)
          try simp only [Act.put, List.setIfInBounds_toArray, List.set_cons_zero, List.set_cons_succ]
          refine wpAnyH_take (i := 12) (oi := ({ dst := some 67, op := Op.binOp BinOp.eql 4 (Operand.tmp 55) (Operand.tmp 66) 4, type := 4, pos := "law.go:124", after := #[{ on := 0, ground := Ground.data }, { on := 11, ground := Ground.data }], guard := none } : Oper)) (v := ?_) rfl (by kernel_rfl) (by kernel_rfl) (by kernel_rfl) (fun _ _ _ h => h) (Or.inl ⟨by rfl, ?_⟩) (by assumption) ?_
          rotate_left
          · intro w hSw; (try dsimp only at hSw); go_simp; (try with_reducible rfl)
          try simp only [Act.put, List.setIfInBounds_toArray, List.set_cons_zero, List.set_cons_succ]
          refine wpAnyH_take (i := 13) (oi := ({ dst := some 68, op := Op.move (Operand.tmp 67), type := 4, pos := "law.go:124", after := #[{ on := 12, ground := Ground.data }, { on := 4, ground := Ground.chain }], guard := none } : Oper)) (v := ?_) rfl (by kernel_rfl) (by kernel_rfl) (by kernel_rfl) (fun _ _ _ h => h) (Or.inl ⟨by rfl, ?_⟩) (by assumption) ?_
          rotate_left
          · intro w hSw; (try dsimp only at hSw); go_simp; (try with_reducible rfl)
          try simp only [Act.put, List.setIfInBounds_toArray, List.set_cons_zero, List.set_cons_succ]
          refine wpAnyH_take (i := 14) (oi := ({ dst := some 69, op := Op.move (Operand.tmp 5), type := 55, pos := "law.go:124", after := #[{ on := 13, ground := Ground.guard }], guard := some (13, true) } : Oper)) (v := ?_) rfl (by kernel_rfl) (by kernel_rfl) (by kernel_rfl) (fun _ _ _ h => h) (Or.inl ⟨by rfl, ?_⟩) (by assumption) ?_
          rotate_left
          · intro w hSw; (try dsimp only at hSw); go_simp; (try with_reducible rfl)
          try simp only [Act.put, List.setIfInBounds_toArray, List.set_cons_zero, List.set_cons_succ]
          refine wpAnyH_take (i := 15) (oi := ({ dst := some 70, op := Op.fieldAddr 69 (Operand.tmp 8) 1, type := 0, pos := "law.go:124", after := #[{ on := 13, ground := Ground.guard }], guard := some (13, true) } : Oper)) (v := ?_) rfl (by kernel_rfl) (by kernel_rfl) (by kernel_rfl) (fun _ _ _ h => h) (Or.inl ⟨by rfl, ?_⟩) (by assumption) ?_
          rotate_left
          · intro w hSw; (try dsimp only at hSw); go_simp; (try with_reducible rfl)
          try simp only [Act.put, List.setIfInBounds_toArray, List.set_cons_zero, List.set_cons_succ]
          refine wpAnyH_take (i := 16) (oi := ({ dst := some 71, op := Op.load 3 (Operand.tmp 70), type := 3, pos := "law.go:124", after := #[{ on := 15, ground := Ground.data }, { on := 13, ground := Ground.guard }], guard := some (13, true) } : Oper)) (v := ?_) rfl (by kernel_rfl) (by kernel_rfl) (by kernel_rfl) (fun _ _ _ h => h) (Or.inl ⟨by rfl, ?_⟩) (by assumption) ?_
          rotate_left
          · intro w hSw; (try dsimp only at hSw); go_simp; (try with_reducible rfl)
          try simp only [Act.put, List.setIfInBounds_toArray, List.set_cons_zero, List.set_cons_succ]
          refine wpAnyH_take (i := 18) (oi := ({ dst := some 73, op := Op.load 65 (Operand.tmp 6), type := 65, pos := "law.go:124", after := #[{ on := 13, ground := Ground.guard }], guard := some (13, true) } : Oper)) (v := ?_) rfl (by kernel_rfl) (by kernel_rfl) (by kernel_rfl) (fun _ _ _ h => h) (Or.inl ⟨by rfl, ?_⟩) (by assumption) ?_
          rotate_left
          · intro w hSw; (try dsimp only at hSw); go_simp; (try with_reducible rfl)
          try simp only [Act.put, List.setIfInBounds_toArray, List.set_cons_zero, List.set_cons_succ]
          refine wpAnyH_take (i := 19) (oi := ({ dst := some 74, op := Op.fieldAddr 69 (Operand.tmp 8) 1, type := 0, pos := "law.go:124", after := #[{ on := 13, ground := Ground.guard }], guard := some (13, true) } : Oper)) (v := ?_) rfl (by kernel_rfl) (by kernel_rfl) (by kernel_rfl) (fun _ _ _ h => h) (Or.inl ⟨by rfl, ?_⟩) (by assumption) ?_
          rotate_left
          · intro w hSw; (try dsimp only at hSw); go_simp; (try with_reducible rfl)
          try simp only [Act.put, List.setIfInBounds_toArray, List.set_cons_zero, List.set_cons_succ]
          refine wpAnyH_take (i := 20) (oi := ({ dst := some 75, op := Op.load 3 (Operand.tmp 74), type := 3, pos := "law.go:124", after := #[{ on := 19, ground := Ground.data }, { on := 13, ground := Ground.guard }], guard := some (13, true) } : Oper)) (v := ?_) rfl (by kernel_rfl) (by kernel_rfl) (by kernel_rfl) (fun _ _ _ h => h) (Or.inl ⟨by rfl, ?_⟩) (by assumption) ?_
          rotate_left
          · intro w hSw; (try dsimp only at hSw); go_simp; (try with_reducible rfl)
          try simp only [Act.put, List.setIfInBounds_toArray, List.set_cons_zero, List.set_cons_succ]
          refine wpAnyH_ready (rs := [17]) (by kernel_rfl) (by simp) ?_
          refine AllReadyH.cons (o := ({ dst := some 72, op := Op.call { callee := Callee.value (Operand.func 36), args := #[Operand.tmp 69, Operand.tmp 71], argTypes := #[55, 3] }, type := 4, pos := "law.go:124", after := #[{ on := 14, ground := Ground.data }, { on := 16, ground := Ground.data }, { on := 13, ground := Ground.chain }, { on := 13, ground := Ground.guard }], guard := some (13, true) } : Oper)) rfl (fun K hK => ?_) AllReadyH.nil
          go_simp
          refine (TB.out _ _ (by assumption)).mono ?_; rintro e w9 ⟨rfl, ht⟩
          go_wp2_with fail
          refine hK.out _ _ (TC.out _ _ (by assumption)) (fun hHeld => ?_)
          clear hK K
          try simp only [Act.put, List.setIfInBounds_toArray, List.set_cons_zero, List.set_cons_succ]
          refine wpAnyH_ready (rs := [21]) (by kernel_rfl) (by simp) ?_
          refine AllReadyH.cons (o := ({ dst := some 76, op := Op.call { callee := Callee.value (Operand.func 37), args := #[Operand.tmp 73, Operand.tmp 75], argTypes := #[65, 3] }, type := 4, pos := "law.go:124", after := #[{ on := 18, ground := Ground.data }, { on := 20, ground := Ground.data }, { on := 17, ground := Ground.chain }, { on := 13, ground := Ground.guard }], guard := some (13, true) } : Oper)) rfl (fun K hK => ?_) AllReadyH.nil
          go_simp
          refine (TH.out _ _ (by assumption)).mono ?_; rintro e w10 ⟨rfl, ht'⟩
          go_wp2_with fail
          refine hK.out _ _ (TC.out _ _ (by assumption)) (fun hHeld => ?_)
          clear hK K
          try simp only [Act.put, List.setIfInBounds_toArray, List.set_cons_zero, List.set_cons_succ]
          refine wpAnyH_take (i := 22) (oi := ({ dst := some 77, op := Op.binOp BinOp.eql 4 (Operand.tmp 72) (Operand.tmp 76) 4, type := 4, pos := "law.go:124", after := #[{ on := 17, ground := Ground.data }, { on := 21, ground := Ground.data }, { on := 13, ground := Ground.guard }], guard := some (13, true) } : Oper)) (v := ?_) rfl (by kernel_rfl) (by kernel_rfl) (by kernel_rfl) (fun _ _ _ h => h) (Or.inl ⟨by rfl, ?_⟩) (by assumption) ?_
          rotate_left
          · intro w hSw; (try dsimp only at hSw); go_simp; (try with_reducible rfl)
          try simp only [Act.put, List.setIfInBounds_toArray, List.set_cons_zero, List.set_cons_succ]
          refine wpAnyH_take (i := 23) (oi := ({ dst := some 78, op := Op.pick (Operand.tmp 68) (Operand.tmp 77) (Operand.const (Value.bool false)), type := 4, pos := "law.go:124", after := #[{ on := 13, ground := Ground.data }, { on := 22, ground := Ground.data }], guard := none } : Oper)) (v := ?_) rfl (by kernel_rfl) (by kernel_rfl) (by kernel_rfl) (fun _ _ _ h => h) (Or.inl ⟨by rfl, ?_⟩) (by assumption) ?_
          rotate_left
          · intro w hSw; (try dsimp only at hSw); go_simp; (try with_reducible rfl)
          try simp only [Act.put, List.setIfInBounds_toArray, List.set_cons_zero, List.set_cons_succ]
          refine wpAnyH_take (i := 24) (oi := ({ dst := some 79, op := Op.move (Operand.tmp 78), type := 4, pos := "law.go:124", after := #[{ on := 23, ground := Ground.data }, { on := 21, ground := Ground.chain }], guard := none } : Oper)) (v := ?_) rfl (by kernel_rfl) (by kernel_rfl) (by kernel_rfl) (fun _ _ _ h => h) (Or.inl ⟨by rfl, ?_⟩) (by assumption) ?_
          rotate_left
          · intro w hSw; (try dsimp only at hSw); go_simp; (try with_reducible rfl)
          try simp only [Act.put, List.setIfInBounds_toArray, List.set_cons_zero, List.set_cons_succ]
          refine wpAnyH_take (i := 25) (oi := ({ dst := some 80, op := Op.move (Operand.tmp 5), type := 55, pos := "law.go:124", after := #[{ on := 24, ground := Ground.guard }], guard := some (24, true) } : Oper)) (v := ?_) rfl (by kernel_rfl) (by kernel_rfl) (by kernel_rfl) (fun _ _ _ h => h) (Or.inl ⟨by rfl, ?_⟩) (by assumption) ?_
          rotate_left
          · intro w hSw; (try dsimp only at hSw); go_simp; (try with_reducible rfl)
          try simp only [Act.put, List.setIfInBounds_toArray, List.set_cons_zero, List.set_cons_succ]
          refine wpAnyH_take (i := 26) (oi := ({ dst := some 81, op := Op.move (Operand.tmp 10), type := 55, pos := "law.go:124", after := #[{ on := 24, ground := Ground.guard }], guard := some (24, true) } : Oper)) (v := ?_) rfl (by kernel_rfl) (by kernel_rfl) (by kernel_rfl) (fun _ _ _ h => h) (Or.inl ⟨by rfl, ?_⟩) (by assumption) ?_
          rotate_left
          · intro w hSw; (try dsimp only at hSw); go_simp; (try with_reducible rfl)
          try simp only [Act.put, List.setIfInBounds_toArray, List.set_cons_zero, List.set_cons_succ]
          refine wpAnyH_take (i := 28) (oi := ({ dst := some 83, op := Op.move (Operand.tmp 11), type := 4, pos := "law.go:124", after := #[{ on := 24, ground := Ground.guard }], guard := some (24, true) } : Oper)) (v := ?_) rfl (by kernel_rfl) (by kernel_rfl) (by kernel_rfl) (fun _ _ _ h => h) (Or.inl ⟨by rfl, ?_⟩) (by assumption) ?_
          rotate_left
          · intro w hSw; (try dsimp only at hSw); go_simp; (try with_reducible rfl)
          try simp only [Act.put, List.setIfInBounds_toArray, List.set_cons_zero, List.set_cons_succ]
          refine wpAnyH_take (i := 29) (oi := ({ dst := some 84, op := Op.unOp UnOp.not 4 (Operand.tmp 83), type := 4, pos := "law.go:124", after := #[{ on := 28, ground := Ground.data }, { on := 24, ground := Ground.guard }], guard := some (24, true) } : Oper)) (v := ?_) rfl (by kernel_rfl) (by kernel_rfl) (by kernel_rfl) (fun _ _ _ h => h) (Or.inl ⟨by rfl, ?_⟩) (by assumption) ?_
          rotate_left
          · intro w hSw; (try dsimp only at hSw); go_simp; (try with_reducible rfl)
          try simp only [Act.put, List.setIfInBounds_toArray, List.set_cons_zero, List.set_cons_succ]
          refine wpAnyH_ready (rs := [27]) (by kernel_rfl) (by simp) ?_
          refine AllReadyH.cons (o := ({ dst := some 82, op := Op.call { callee := Callee.value (Operand.func 32), args := #[Operand.tmp 80, Operand.tmp 81], argTypes := #[55, 55] }, type := 4, pos := "law.go:124", after := #[{ on := 25, ground := Ground.data }, { on := 26, ground := Ground.data }, { on := 24, ground := Ground.chain }, { on := 24, ground := Ground.guard }], guard := some (24, true) } : Oper)) rfl (fun K hK => ?_) AllReadyH.nil
          go_simp
          refine (TE.out _ (by assumption)).mono ?_; rintro e w11 ⟨rfl, ht''⟩
          go_wp2_with fail
          refine hK.out _ _ (TC.out _ _ (by assumption)) (fun hHeld => ?_)
          clear hK K
          try simp only [Act.put, List.setIfInBounds_toArray, List.set_cons_zero, List.set_cons_succ]
          refine wpAnyH_take (i := 30) (oi := ({ dst := some 85, op := Op.binOp BinOp.eql 4 (Operand.tmp 82) (Operand.tmp 84) 4, type := 4, pos := "law.go:124", after := #[{ on := 27, ground := Ground.data }, { on := 29, ground := Ground.data }, { on := 24, ground := Ground.guard }], guard := some (24, true) } : Oper)) (v := ?_) rfl (by kernel_rfl) (by kernel_rfl) (by kernel_rfl) (fun _ _ _ h => h) (Or.inl ⟨by rfl, ?_⟩) (by assumption) ?_
          rotate_left
          · intro w hSw; (try dsimp only at hSw); go_simp; (try with_reducible rfl)
          try simp only [Act.put, List.setIfInBounds_toArray, List.set_cons_zero, List.set_cons_succ]
          refine wpAnyH_take (i := 31) (oi := ({ dst := some 86, op := Op.pick (Operand.tmp 79) (Operand.tmp 85) (Operand.const (Value.bool false)), type := 4, pos := "law.go:124", after := #[{ on := 24, ground := Ground.data }, { on := 30, ground := Ground.data }], guard := none } : Oper)) (v := ?_) rfl (by kernel_rfl) (by kernel_rfl) (by kernel_rfl) (fun _ _ _ h => h) (Or.inl ⟨by rfl, ?_⟩) (by assumption) ?_
          rotate_left
          · intro w hSw; (try dsimp only at hSw); go_simp; (try with_reducible rfl)
          try simp only [Act.put, List.setIfInBounds_toArray, List.set_cons_zero, List.set_cons_succ]
          refine wpAnyH_take (i := 32) (oi := ({ dst := some 87, op := Op.move (Operand.tmp 86), type := 4, pos := "law.go:124", after := #[{ on := 31, ground := Ground.data }, { on := 27, ground := Ground.chain }], guard := none } : Oper)) (v := ?_) rfl (by kernel_rfl) (by kernel_rfl) (by kernel_rfl) (fun _ _ _ h => h) (Or.inl ⟨by rfl, ?_⟩) (by assumption) ?_
          rotate_left
          · intro w hSw; (try dsimp only at hSw); go_simp; (try with_reducible rfl)
          try simp only [Act.put, List.setIfInBounds_toArray, List.set_cons_zero, List.set_cons_succ]
          refine wpAnyH_take (i := 33) (oi := ({ dst := some 88, op := Op.move (Operand.tmp 5), type := 55, pos := "law.go:124", after := #[{ on := 32, ground := Ground.guard }], guard := some (32, true) } : Oper)) (v := ?_) rfl (by kernel_rfl) (by kernel_rfl) (by kernel_rfl) (fun _ _ _ h => h) (Or.inl ⟨by rfl, ?_⟩) (by assumption) ?_
          rotate_left
          · intro w hSw; (try dsimp only at hSw); go_simp; (try with_reducible rfl)
          try simp only [Act.put, List.setIfInBounds_toArray, List.set_cons_zero, List.set_cons_succ]
          refine wpAnyH_ready (rs := [34]) (by kernel_rfl) (by simp) ?_
          refine AllReadyH.cons (o := ({ dst := some 89, op := Op.call { callee := Callee.value (Operand.func 27), args := #[Operand.const (Value.int IntKind.i64 401)], argTypes := #[3] }, type := 55, pos := "law.go:124", after := #[{ on := 32, ground := Ground.chain }, { on := 32, ground := Ground.guard }], guard := some (32, true) } : Oper)) rfl (fun K hK => ?_) AllReadyH.nil
          go_simp
          refine (TN.out _ _ (by assumption)).mono ?_; rintro e w12 ⟨bb, rfl, ht3, hbb⟩
          go_wp2_with fail
          refine hK.out _ _ (TC.out _ _ (by assumption)) (fun hHeld => ?_)
          clear hK K
          try simp only [Act.put, List.setIfInBounds_toArray, List.set_cons_zero, List.set_cons_succ]
          refine wpAnyH_ready (rs := [35]) (by kernel_rfl) (by simp) ?_
          refine AllReadyH.cons (o := ({ dst := some 90, op := Op.call { callee := Callee.value (Operand.func 32), args := #[Operand.tmp 88, Operand.tmp 89], argTypes := #[55, 55] }, type := 4, pos := "law.go:124", after := #[{ on := 33, ground := Ground.data }, { on := 34, ground := Ground.data }, { on := 34, ground := Ground.chain }, { on := 32, ground := Ground.guard }], guard := some (32, true) } : Oper)) rfl (fun K hK => ?_) AllReadyH.nil
          go_simp
          refine (TF.out _ _ _ _ (by assumption) (by assumption)).mono ?_; rintro e w13 ⟨rfl, ht4⟩
          go_wp2_with fail
          refine hK.out _ _ (TC.out _ _ (by assumption)) (fun hHeld => ?_)
          clear hK K
          try simp only [Act.put, List.setIfInBounds_toArray, List.set_cons_zero, List.set_cons_succ]
          refine wpAnyH_take (i := 36) (oi := ({ dst := some 91, op := Op.unOp UnOp.not 4 (Operand.tmp 90), type := 4, pos := "law.go:124", after := #[{ on := 35, ground := Ground.data }, { on := 32, ground := Ground.guard }], guard := some (32, true) } : Oper)) (v := ?_) rfl (by kernel_rfl) (by kernel_rfl) (by kernel_rfl) (fun _ _ _ h => h) (Or.inl ⟨by rfl, ?_⟩) (by assumption) ?_
          rotate_left
          · intro w hSw; (try dsimp only at hSw); go_simp; (try with_reducible rfl)
          try simp only [Act.put, List.setIfInBounds_toArray, List.set_cons_zero, List.set_cons_succ]
          refine wpAnyH_take (i := 37) (oi := ({ dst := some 92, op := Op.pick (Operand.tmp 87) (Operand.tmp 91) (Operand.const (Value.bool false)), type := 4, pos := "law.go:124", after := #[{ on := 32, ground := Ground.data }, { on := 36, ground := Ground.data }], guard := none } : Oper)) (v := ?_) rfl (by kernel_rfl) (by kernel_rfl) (by kernel_rfl) (fun _ _ _ h => h) (Or.inl ⟨by rfl, ?_⟩) (by assumption) ?_
          rotate_left
          · intro w hSw; (try dsimp only at hSw); go_simp; (try with_reducible rfl)
          try simp only [Act.put, List.setIfInBounds_toArray, List.set_cons_zero, List.set_cons_succ]
          refine wpAnyH_take (i := 38) (oi := _) (v := ?_) rfl (by kernel_rfl) (by kernel_rfl) (by kernel_rfl) (fun _ _ _ h => h) (Or.inl ⟨by rfl, ?_⟩) (by assumption) ?_
          rotate_left
          · intro w hSw; (try dsimp only at hSw); go_simp; (try with_reducible rfl)
          try simp only [Act.put, List.setIfInBounds_toArray, List.set_cons_zero, List.set_cons_succ]
          refine wpAnyH_done (by kernel_rfl) ?_ _
          have HPE := Lib.hid (HP6.out.later ht4.1)
          have HGE := Lib.hid (HG6.out.trans (ht4.1.mono hB6'))
          go_wp2_with fail
          go_roundg (60 - (k + 1))
          case measure => rw [HK.out]; omega
          case rel => exact ⟨k + 1, S, rfl, by omega, by go_num, HPE.out, HGE.out⟩
      · have hgo' : (k : Int) < acts.length → ¬ (k : Int) < 60 := by omega
        have HP := Lib.hid hp; have HG := Lib.hid hg; clear hp hg
        clear hgo
        go_wp2_with fail
        all_goals (try (exfalso; go_light; omega))
        all_goals go_meet
        all_goals exact ⟨S, HP.out, HG.out⟩
  case rest =>
    obtain ⟨S, hp, hg⟩ := hcut
    obtain ⟨wr, hwr⟩ : ∃ z, z = wc := ⟨_, rfl⟩
    subst hwr
    have hBs : B ≤ wr.heap.size := HSZ.out wr hg
    have HGL2 := HGL
    have hp6 := hp.later ((Below.refl _ wr).alloc (Nat.le_refl _) (.cells #[.int .i64 0, .slice none 0 0] 75))
    have hg6 := hg.alloc hBs (.cells #[.int .i64 0, .slice none 0 0] 75)
    have hz6 : (wr.alloc (.cells #[.int .i64 0, .slice none 0 0] 75)).cell? ⟨wr.heap.size, 0, none⟩ = some (.int .i64 0) := (cellO (heap_alloc_new wr _) 0).trans rfl
    have hl6 := lt_of_cell hz6
    go_upto_region 27 with fail
    generalize wr.alloc (.cells #[.int .i64 0, .slice none 0 0] 75) = w6 at *
    generalize hz' : wr.heap.size = z at *
    clear hz' hp hg
    have hla := hp6.lt
    have d6 := hp6.cell
    have hcl : clipN N (N : Int) = N := by unfold clipN; omega
    have CB := Lib.hid (fun W (hW : Below w6.heap.size w6 W) => (below_any B (B + 1) N S (N : Int) W (hp6.later hW).1).mono fun e w' h => show _ ∧ Below W.heap.size W w' from ⟨h.1, h.2 ▸ Below.refl _ _⟩)
    have CR := Lib.hid (fun W (hW : Below w6.heap.size w6 W) => rbelow_any g6 N S (N : Int) W (hp6.later hW).2.1)
    simp only [refV] at CR
    rw [hcl] at CB CR
    have C0 := Lib.hid (fun W (hW : Below w6.heap.size w6 W) => (zsize_any z W ((hW.cell (p := ⟨z, 0, none⟩) hl6).trans hz6)).mono fun e w' h => show _ ∧ Below W.heap.size W w' from ⟨h.1, h.2 ▸ Below.refl _ _⟩)
    have C1 := Lib.hid (fun W (hW : Below w6.heap.size w6 W) => (zset_any z W ((hW.cell (p := ⟨z, 0, none⟩) hl6).trans hz6)).mono fun e w' h => show _ ∧ Below W.heap.size W w' from ⟨h.1, h.2 ▸ Below.refl _ _⟩)
    have C2 := Lib.hid (fun W (hW : Below w6.heap.size w6 W) => (znext_any z W ((hW.cell (p := ⟨z, 0, none⟩) hl6).trans hz6)).mono fun e w' h => show _ ∧ Below W.heap.size W w' from ⟨h.1, h.2 ▸ Below.refl _ _⟩)
    have HGE := Lib.hid (HGL.out w6 hg6)
    clear hcl hp6 hg6 hz6
    generalize cnt S N = c at *
    have q5 : ((c : Int) == (c : Int)) = true := beq_self_eq_true _
    (refine wp_region_later (by kernel_rfl) (by kernel_rfl) ?_; (repeat (go_big_quiet_step (((first | (go_at_call 30; with_reducible exact calls_later_if CB.out) | (go_at_call 39; with_reducible exact calls_later_if CR.out) | (go_at_call 34; with_reducible exact calls_later_if C0.out) | (go_at_call 28; with_reducible exact calls_later_if C1.out) | (go_at_call 29; with_reducible exact calls_later_if C2.out)))))); refine wpQuiet_nil ?_; intro w7 hw4; have hg := later_elim hw4; clear hw4)
    have HG7 := Lib.hid (HGE.out.trans (hg.mono HGE.out.size)); clear hg
    go_wp2_with fail
    go_ret
    exact ⟨rfl, HG7.out⟩
theorem own : ownKnob Tryd.prog.godebug = none := by kernel_rfl
theorem laidOut : laidOutB Tryd.prog = true := by kernel_rfl
set_option maxRecDepth 100000 in
theorem lifted (os : Os) (started : os.Started) (H : Type) (enc : TypeId × Value → H) :
    ReturnsInHanded {} Tryd.checked os 7 .any (fun w args => (Rows.packBitsSpec.pre enc Tryd.prog Tryd.f7 Rows.packBitsRow.domain false w args ∧ laidMet Tryd.prog Rows.packBitsRow.laid w) ∧ sizedMet enc Tryd.prog Tryd.f7 (OpenSpec.ofChange Rows.packBitsSpec) false w args)
      (Rows.packBitsSpec.post enc Tryd.prog Tryd.f7 false true false false) := by
  refine returnsInHanded_of_change_and (C := Tryd.checked) (X := fun w _ => laidMet Tryd.prog Rows.packBitsRow.laid w) (fun _ _ _ hh h => h.of_heap hh) own started (by kernel_rfl) Tryd.func7
    (ChangeSpec.witness_at (enc := enc) (C := Tryd.checked) (os := os) (X := fun w _ => laidMet Tryd.prog Rows.packBitsRow.laid w) false (laidWorld os) #[.int .i64 0, .slice none 0 0] 8 rfl (by kernel_rfl) (by kernel_rfl) (by kernel_rfl) (by kernel_rfl) (by kernel_rfl) (laid_met os _)) ?_
  intro W base args ds gs before hval0 hW hcnd hsz0 hL _
  have hval : ∀ (j : Nat) t v, Tryd.f7.params[j]? = some t → args[j]? = some v → Value.okWide Tryd.prog W .any base t v := hval0
  have hW' := hW
  obtain ⟨p, q, hA0, hV, rfl, hfz, hnd⟩ := hW
  have hA : DataW.TrodAll enc Tryd.prog W 0 (fun _ => true) true Tryd.f7.params.toList args.toList ds p := hA0
  rw [Tryd.params7] at hA hval
  obtain ⟨v0, vs0, d0, ds0, p0, q0, hargs, rfl, rfl, h0, r0⟩ := trodAll_cons hA
  obtain ⟨v1, vs1, d1, ds1, p1, q1, rfl, rfl, rfl, h1, r1⟩ := trodAll_cons r0
  obtain ⟨rfl, rfl, rfl⟩ := trodAll_nil r1
  obtain rfl : args = #[v0, v1] := by cases args; simp_all
  obtain ⟨rfl, rfl⟩ := trodVars_none hV
  have k0 := h0
  have lt0 : ∀ x ∈ p0, x.block < W.heap.size := by obtain ⟨m, hm⟩ := k0; exact DataW.trod_lt m _ _ _ hm
  have k1 := h1
  have lt1 : ∀ x ∈ p1, x.block < W.heap.size := by obtain ⟨m, hm⟩ := k1; exact DataW.trod_lt m _ _ _ hm
  obtain ⟨n, rfl, -, -, hn⟩ := open_int Tryd.underlying3 (hval 0 3 v0 rfl rfl) h0
  obtain ⟨acts, hl⟩ := open_acts (hval 1 63 v1 rfl rfl) h1
  have hT := tab_of_laid hL
  clear hA0 hval0
  refine (walk n v1 acts W hl hT).mono fun e W' ⟨he, bel⟩ => ?_
  subst he
  exact ⟨_, rfl, _, _, _, [], _, [], hW', trodAll_mk1 (shut_bool Tryd.underlying4 _), (trodAll_cons_mk (Below.trod laidOut (by kernel_rfl) (of_decide_eq_true (by kernel_rfl)) k0 bel lt0) (trodAll_cons_mk (Below.trod laidOut (by kernel_rfl) (of_decide_eq_true (by kernel_rfl)) k1 bel lt1) trodAll_mk0)), rfl, bel.frame _, fun h => by cases h⟩
theorem over : Rows.packBitsRow.holds Tryd.pinned (OpenSpec.ofChange Rows.packBitsSpec) :=
  OpenClaim.holds_of_wide 7 Tryd.f7 rfl rfl rfl rfl rfl rfl rfl ⟨rfl, rfl, rfl, rfl, rfl⟩ rfl rfl rfl rfl rfl (by kernel_rfl) Tryd.func7 (by kernel_rfl)
    (of_decide_eq_true (by kernel_rfl)) (by unfold Func.isWrapper; rw [if_neg (by decide +kernel)]; exact ⟨rfl, rfl⟩)
    (fun os started H enc _ => lifted os started H enc)
theorem proved : Rows.PackBitsCardSaid :=
  Claim7.holds_tied_plain_at .later [] [.data] true (true, "d027a49ad6245683e2388a9bf0917ed7bf2ed7afc987c7a54defa697072aefb8") false
    over (fun _ h => by cases h) (by kernel_rfl) (fun _ h => by cases h) packBits_row_tie rfl ⟨rfl, rfl⟩ (by kernel_rfl) rfl
    (fun f fn hf hfn => by
      obtain rfl : f = 7 := Option.some.inj ((show Tryd.prog.funcNamed "foundling/foundlinglaw02.PackBits" = some 7 by kernel_rfl).symm.trans hf) |>.symm
      obtain rfl : fn = Tryd.f7 := (Option.some.inj (Tryd.func7.symm.trans hfn)).symm
      exact ⟨by kernel_rfl, fun j t ht => by
        have hall : (Tryd.f7.params.all fun t => !Tryd.prog.wantsStandIn t) = true := by kernel_rfl
        rw [Array.all_eq_true_iff_forall_mem] at hall
        have := hall t (Array.mem_of_getElem? ht)
        show Tryd.prog.wantsStandIn t = false
        simpa using this⟩)
    (by kernel_rfl)
end Go.Proofs.YtmbfkagoiijjmaaDoor.packBits
