/- The checker's step: from an instruction to those that come next. -/
import Derived.Test.YtnajgpefmknmpaaDoorChkA
namespace Go.Proofs.YtnajgpefmknmpaaDoor
open Go.RowKit Go.Maps
set_option linter.unusedVariables false
/-- a goal's cells -/
def glC (g : Gl) : List Value := [.int .i64 g.at_, .int .i64 g.part, .int .i64 g.deep]
def glsC (l : List Gl) : List Value := l.flatMap glC
theorem glsC_length : ∀ l : List Gl, (glsC l).length = l.length * 3
  | [] => rfl
  | x :: l => by unfold glsC; rw [List.flatMap_cons, List.length_append]; have := glsC_length l; unfold glsC at this; rw [this, List.length_cons]; show 3 + _ = _; omega
theorem glsC_at : ∀ (l : List Gl) (k : Nat) (h : k < l.length), (glsC l)[k * 3]? = some (.int .i64 (l[k]).at_) ∧ (glsC l)[k * 3 + 1]? = some (.int .i64 (l[k]).part) ∧ (glsC l)[k * 3 + 2]? = some (.int .i64 (l[k]).deep)
  | x :: l, 0, _ => ⟨rfl, rfl, rfl⟩
  | x :: l, k + 1, h => by
    have hk : k < l.length := by simpa using h
    obtain ⟨h0, h1, h2⟩ := glsC_at l k hk
    have e : glsC (x :: l) = glC x ++ glsC l := rfl
    have hl : (glC x).length = 3 := rfl
    rw [e]
    refine ⟨?_, ?_, ?_⟩
    · rw [List.getElem?_append_right (by omega), hl, show (k + 1) * 3 - 3 = k * 3 by omega]; simpa using h0
    · rw [List.getElem?_append_right (by omega), hl, show (k + 1) * 3 + 1 - 3 = k * 3 + 1 by omega]; simpa using h1
    · rw [List.getElem?_append_right (by omega), hl, show (k + 1) * 3 + 2 - 3 = k * 3 + 2 by omega]; simpa using h2
theorem goalInfo : (Tryd.prog.info? 97).map (fun i => (i.zero, i.size, i.bytes)) = some (some (.agg #[.int .i64 0, .int .i64 0, .int .i64 0]), 3, 24) := by kernel_rfl
/-- a row of goals of the call's own -/
def OwnsG (w : World) (B : Nat) (v : Value) (gs : List Gl) : Prop := w.ownsRow B 97 3 v gs.length (glsC gs)
theorem ownsG_push {w : World} {B : Nat} {v : Value} {gs : List Gl} {g : Gl} (h : w.ownsRow B 97 3 v (gs.length + 1) (glsC gs ++ glC g)) : OwnsG w B v (gs ++ [g]) := by
  unfold OwnsG
  have e : glsC (gs ++ [g]) = glsC gs ++ glC g := by unfold glsC; rw [List.flatMap_append]; simp
  rw [List.length_append, e]
  exact h
/-- what holds of the checker's parts, places and depths -/
structure Inv (l : List UInt8) (c : Ck) (D : Int) : Prop where
  parts : ∀ P ∈ c.parts, P.fr ≤ P.to_ ∧ P.to_ ≤ l.length ∧ 0 ≤ P.deep ∧ P.deep ≤ 65536
  of_ : ∀ z y, c.of_ z = some y → 0 ≤ z ∧ z < l.length ∧ 0 ≤ y ∧ y < c.parts.length
  blocks : ∀ z y, c.blocks z = some y → 0 ≤ y ∧ y < c.parts.length
  depth : ∀ z y, c.depth z = some y → -D ≤ y ∧ y ≤ D
  most : -D ≤ c.most ∧ c.most ≤ D
@[go_sem high] theorem run_max3 {P : Program} (w : World) (ts : Array TypeId) (t : TypeId) (k k' k'' : IntKind) (x y z : Int) :
    (Builtin.max_ ts t #[.int k x, .int k' y, .int k'' z]).run P w = .ok (.int k (max (max x y) z)) w := by
  have e : ∀ x y : Int, (if y > x then y else x) = max x y := by
    intro x y
    rw [Int.max_def]
    split <;> split <;> omega
  simp [Builtin.max_, Builtin.max2, e]
/-- what is decoded anywhere -/
theorem dec_bd (l : List UInt8) (p : Int) (hl : l.length ≤ 100000) : (0 ≤ (decI l p).1.op ∧ (decI l p).1.op ≤ 19) ∧ (-65536 ≤ (decI l p).1.a ∧ (decI l p).1.a < 65536) ∧ (-65536 ≤ (decI l p).1.b ∧ (decI l p).1.b < 65536) ∧ (0 ≤ (decI l p).2.1 ∧ (decI l p).2.1 ≤ 100000) := by
  by_cases h1 : p < 0 ∨ (l.length : Int) < p
  · rw [dec_arg h1]; exact ⟨⟨by decide, by decide⟩, ⟨by decide, by decide⟩, ⟨by decide, by decide⟩, by decide, by decide⟩
  · by_cases h2 : p = l.length
    · subst h2; rw [dec_end]; exact ⟨⟨by decide, by decide⟩, ⟨by decide, by decide⟩, ⟨by decide, by decide⟩, by decide, by decide⟩
    · obtain ⟨k, rfl⟩ := Int.eq_ofNat_of_zero_le (show 0 ≤ p by omega)
      have hk : k < l.length := by omega
      by_cases h3 : 20 ≤ (l.getD k 0).toNat
      · rw [dec_form hk h3]; exact ⟨⟨by decide, by decide⟩, ⟨by decide, by decide⟩, ⟨by decide, by decide⟩, by decide, by decide⟩
      · by_cases h4 : l.length < k + 1 + (fmOf (l.getD k 0).toNat).a + (fmOf (l.getD k 0).toNat).b
        · rw [dec_short hk (by omega) h4]; exact ⟨⟨by decide, by decide⟩, ⟨by decide, by decide⟩, ⟨by decide, by decide⟩, by decide, by decide⟩
        · have he : (decI l k).2.2 = 0 := by rw [dec_yes hk (by omega) h4]
          obtain ⟨c, hc, -, h5, h6, h7, -, -⟩ := dec_ok hk he
          obtain ⟨r1, r2, r3, r4⟩ := dec_range hk he
          exact ⟨⟨by omega, by omega⟩, ⟨r1, r2⟩, ⟨r3, r4⟩, by omega, by omega⟩
theorem flow_bd (x : Ins) (hb : -65536 ≤ x.b ∧ x.b < 65536) : (-100000 ≤ (flowM x).1 ∧ (flowM x).1 ≤ 100000) ∧ 0 ≤ (flowM x).2 ∧ (flowM x).2 ≤ 2 := by
  unfold flowM
  repeat' split
  all_goals exact ⟨⟨by omega, by omega⟩, by omega, by omega⟩
theorem gb_of {w w' : World} (h : Below w.heap.size w w') (row : Option Nat) : w.grownBy w' row := by
  have g := grown_of_below h
  exact ⟨g.os, g.tape, g.output, g.size, fun i hi _ => g.block i hi (by simp)⟩
theorem owns_base {w : World} {B B' e size n : Nat} {v : Value} {xs : List Value} (h : w.ownsRow B e size v n xs) (hB : B' ≤ B) : w.ownsRow B' e size v n xs := by
  refine ⟨h.1, ?_⟩
  rcases h.2 with h | ⟨g, cap, cur, h1, h2, h3⟩
  · exact Or.inl h
  · exact Or.inr ⟨g, cap, cur, h1, by omega, h3⟩
theorem CkAt.most {w : World} {B N : Nat} {q : Pl} {v pv : Value} {W : Wd} {c : Ck} (H : CkAt w B q v W c pv N) (m : Int) : CkAt (w.setCell ⟨q.h, 8, none⟩ (.int .i64 m)) B q v W { c with most := m } pv N ∧ w.grownBy (w.setCell ⟨q.h, 8, none⟩ (.int .i64 m)) (some q.h) := by
  have hs : w.grownBy (w.setCell ⟨q.h, 8, none⟩ (.int .i64 m)) (some q.h) := ⟨rfl, rfl, rfl, by simp, fun k hk hne => Below.heap_setCell _ _ _ _ (by simpa using hne)⟩
  exact ⟨H.write hs (by rw [heap_setCell_same _ _ _ _ _ _ H.cells]; rfl), hs⟩
/-- the goals that come next -/
def jmpG (x : Ins) (n next bh : Int) : List Gl := if jumpsB x then [⟨bh + x.a, n, next⟩] else []
def blkG (c : Ck) (p : Int) : List Gl := match c.blocks p with
  | some k => [⟨((c.parts.getD k.toNat ⟨0, 0, 0, false⟩).fr : Int), k, (c.parts.getD k.toNat ⟨0, 0, 0, false⟩).deep⟩]
  | none => []
def blkQ (c : Ck) (p bh : Int) (x : Ins) : Int := match c.blocks p with
  | some _ => bh + x.b
  | none => bh
def nxtG (x : Ins) (n next q : Int) : List Gl := if x.op ≠ 14 ∧ x.op ≠ 18 ∧ x.op ≠ 19 then [⟨q, n, next⟩] else []
def nextG (c : Ck) (p n next bh : Int) (x : Ins) : List Gl := jmpG x n next bh ++ blkG c p ++ nxtG x n next (blkQ c p bh x)
def StepPost (l : List UInt8) (B : Nat) (q : Pl) (v pv : Value) (W : Wd) (c : Ck) (p : Int) (N : Nat) (w : World) (e : Ending) (w' : World) : Prop :=
  ∃ gv, e = .returned gv ∧ OwnsG w' w.heap.size gv (stepM l c p).2 ∧ CkAt w' B q v W (stepM l c p).1 pv N ∧ w.grownBy w' (some q.h)
/-- a part's cells -/
theorem CkAt.partCells {w : World} {B N : Nat} {q : Pl} {v pv : Value} {W : Wd} {c : Ck} (H : CkAt w B q v W c pv N) {n : Nat} (hn : n < c.parts.length) :
    ∃ bP cap, pv = .slice (some ⟨bP, 0, none⟩) c.parts.length cap ∧ c.parts.length ≤ cap ∧ bP < w.heap.size ∧ bP ≠ q.h ∧ w.cell? ⟨bP, n * 4, none⟩ = some (.int .i64 ((c.parts.getD n ⟨0, 0, 0, false⟩).fr : Int)) ∧ w.cell? ⟨bP, n * 4 + 2, none⟩ = some (.int .i64 (c.parts.getD n ⟨0, 0, 0, false⟩).deep) ∧ w.cell? ⟨bP, n * 4 + 3, none⟩ = some (.bool (c.parts.getD n ⟨0, 0, 0, false⟩).blk) := by
  have hget : c.parts.getD n ⟨0, 0, 0, false⟩ = c.parts[n] := by rw [List.getD_eq_getElem?_getD, List.getElem?_eq_getElem hn]; rfl
  rcases H.row.2 with ⟨hv', h0⟩ | ⟨g, cap, cur, hv', hB, hg, hn', hm, hs, ht⟩
  · omega
  · obtain ⟨a0, a1, a2, a3⟩ := ptsC_at c.parts n hn
    have hcl : ∀ j, j < c.parts.length * 4 → w.cell? ⟨g, j, none⟩ = (ptsC c.parts)[j]? := fun j hj => by
      have e : w.cell? ⟨g, j, none⟩ = cur[j]? := by simp [World.cell?, hg]
      rw [e, ← ht, List.getElem?_take, if_pos (by omega)]
      simp
    rw [hget]
    refine ⟨g, cap, hv', hn', (Array.getElem?_eq_some_iff.1 hg).1, ?_, (hcl _ (by omega)).trans a0, (hcl _ (by omega)).trans a2, (hcl _ (by omega)).trans a3⟩
    have := H.ne_row
    rw [hv'] at this
    intro e
    exact this (by rw [e]; rfl)
set_option maxRecDepth 100000 in
set_option maxHeartbeats 4000000 in
theorem step_any (l : List UInt8) (B : Nat) (q : Pl) (v pv : Value) (W : Wd) (c : Ck) (p : Int) (n N : Nat) (D : Int) (w : World) (hv : BytesAt w v l) (hl : l.length ≤ 2000) (H : CkAt w B q v W c pv N) (I : Inv l c D) (hD : D ≤ 1000000000) (hp : c.of_ p = some (n : Int)) (hpl : c.parts.length ≤ 1000000) :
    Calls Tryd.prog 40 #[.pointer (some ⟨q.h, 0, none⟩), .int .i64 p] w (StepPost l B q v pv W c p N w) := by
  obtain ⟨i3, gi, gz0, gz1, gz2⟩ := info_parts goalInfo
  obtain ⟨p0, p1, n0, n1⟩ := I.of_ _ _ hp
  have hI64 : I64 p := ⟨by omega, by omega⟩
  have hnl : n < c.parts.length := by omega
  have HH := Lib.hid H
  obtain ⟨bP, cap, rfl, hcap, hbP, hbPh, k0, k2, k3⟩ := H.partCells hnl
  have c0 : w.cell? ⟨q.h, 0, none⟩ = some v := cell_of_row w _ 0 _ _ _ H.cells
  have c4 : w.cell? ⟨q.h, 4, none⟩ = some (.slice (some ⟨bP, 0, none⟩) c.parts.length cap) := cell_of_row w _ 4 _ _ _ H.cells
  have c5 : w.cell? ⟨q.h, 5, none⟩ = some (.map (some q.m1)) := cell_of_row w _ 5 _ _ _ H.cells
  have hlk1 := H.of_.look hI64
  rw [hp] at hlk1
  simp only [Option.getD_some] at hlk1
  have D1 := Lib.hid (show ∀ W, Below w.heap.size w W → Calls Tryd.prog 12 #[v, .int .i64 p] W fun e w' => e = .returned (.tuple #[.agg #[.int .i64 (decI l p).1.op, .int .i64 (decI l p).1.a, .int .i64 (decI l p).1.b], .int .i64 (decI l p).2.1, .int .i64 (decI l p).2.2]) ∧ Below W.heap.size W w' from fun W hW => dec_any v l p W (hv.later hW) (by omega))
  obtain ⟨⟨o1, o2⟩, ⟨a1, a2⟩, ⟨b1, b2⟩, h1, h2⟩ := dec_bd l p (by omega)
  have hfb := flow_bd (decI l p).1 ⟨b1, b2⟩
  have FL := Lib.hid (fun W => flow_any (decI l p).1 W ⟨by omega, by omega⟩)
  have HST := Lib.hid (show stepM l c p = if (c.depth p).getD 0 < (flowM (decI l p).1).1 ∨ ((decI l p).1.op = 19 ∧ (c.parts.getD n ⟨0, 0, 0, false⟩).blk = false) then ({ c with e := wrongE c.e 3 }, []) else ({ c with most := max c.most (max ((c.depth p).getD 0) ((c.depth p).getD 0 - (flowM (decI l p).1).1 + (flowM (decI l p).1).2)) }, nextG c p n ((c.depth p).getD 0 - (flowM (decI l p).1).1 + (flowM (decI l p).1).2) (decI l p).2.1 (decI l p).1) by
    unfold stepM nextG
    rw [hp]
    simp only [Option.getD_some, Int.toNat_natCast]
    rfl)
  have hdep : -D ≤ (c.depth p).getD 0 ∧ (c.depth p).getD 0 ≤ D := by
    have := I.most
    cases hd : c.depth p with
    | none => show -D ≤ 0 ∧ 0 ≤ D; omega
    | some y => exact I.depth _ _ hd
  obtain ⟨d1, d2⟩ := hdep
  obtain ⟨⟨t1, t2⟩, t3, t4⟩ := hfb
  generalize (decI l p).2.2 = er at *
  generalize (decI l p).2.1 = bh at *
  generalize (decI l p).1 = x at *
  generalize hblk0 : (c.parts.getD n ⟨0, 0, 0, false⟩).blk = blk at *
  generalize (flowM x).1 = tk at *
  generalize (flowM x).2 = pt at *
  have hhl := H.lt
  clear H hv
  go_enter Tryd.func40, Tryd.ntmps40
  go_upto_region 3 with (go_at_call 12; refine (D1.out _ (Below.refl _ _)).mono ?_; rintro e w3 ⟨rfl, hg3⟩; have HG3 := Lib.hid hg3; clear hg3)
  have g4 : Below w.heap.size w (w3.alloc (.cells #[.int .i64 x.op, .int .i64 x.a, .int .i64 x.b] 27)) := HG3.out.alloc HG3.out.size _
  have qx : (w3.alloc (.cells #[.int .i64 x.op, .int .i64 x.a, .int .i64 x.b] 27)).heap[w3.heap.size]? = some (.cells #[.int .i64 x.op, .int .i64 x.a, .int .i64 x.b] 27 (0, 0)) := heap_alloc_new w3 _
  have hbx := HG3.out.size
  generalize w3.alloc (.cells #[.int .i64 x.op, .int .i64 x.a, .int .i64 x.b] 27) = w4 at *
  generalize w3.heap.size = bx at *
  have x0 := cell_of_row w4 _ 0 _ _ _ qx
  have x1 := cell_of_row w4 _ 1 _ _ _ qx
  have x2 := cell_of_row w4 _ 2 _ _ _ qx
  simp at x0 x1 x2
  have hbx4 := lt_of_cell x0
  have G4 := Lib.hid g4; have QX := Lib.hid qx
  clear g4 qx hlk1 c0 c4 c5 k0 k2 k3
  go_upto_region 4 with (go_at_call 44; refine (FL.out _).mono ?_; rintro e w5 ⟨rfl, hg5⟩; have HG5 := Lib.hid hg5; clear hg5)
  have G5 := Lib.hid (G4.out.trans (HG5.out.mono G4.out.size))
  have qx5 := (HG5.out.block bx hbx4).trans QX.out
  have H5 := Lib.hid (HH.out.later G5.out)
  have hs5 := G5.out.size
  obtain ⟨bP', cap', hpv', -, -, -, k0, k2, k3⟩ := H5.out.partCells hnl
  simp only [Value.slice.injEq, Option.some.injEq, Addr.mk.injEq, true_and, and_true] at hpv'
  obtain ⟨rfl, rfl⟩ := hpv'
  clear x0 x1 x2
  have x0 := cell_of_row w5 _ 0 _ _ _ qx5
  simp at x0
  have c4 : w5.cell? ⟨q.h, 4, none⟩ = some (.slice (some ⟨bP, 0, none⟩) c.parts.length cap) := cell_of_row w5 _ 4 _ _ _ H5.out.cells
  have c7 : w5.cell? ⟨q.h, 7, none⟩ = some (.map (some q.m3)) := cell_of_row w5 _ 7 _ _ _ H5.out.cells
  have hlk3 := H5.out.depth.look hI64
  generalize hdd : (c.depth p).getD 0 = d at *
  have QX5 := Lib.hid qx5
  have hblk : (c.parts.getD n ⟨0, 0, 0, false⟩).blk = blk := hblk0
  rw [hblk] at k3
  clear qx5 G4 HG5 QX HG3 D1 FL hblk
  go_upto_region 5 with fail
  by_cases hA : d < tk ∨ (x.op = 19 ∧ blk = false)
  · have HS := Lib.hid (HST.out.trans (if_pos hA))
    have WR := Lib.hid (wrong_any q v (.slice (some ⟨bP, 0, none⟩) c.parts.length cap) W c.most c.e 3 w5 H5.out.cells)
    by_cases hA1 : d < tk
    · have e1 : decide (d < tk) = true := decide_eq_true hA1
      clear hA
      go_wp2_with (go_at_call 36; refine WR.out.mono ?_; rintro e w6 ⟨rfl, hw6⟩; have HW := Lib.hid hw6; clear hw6)
      go_ret
      exact ⟨_, rfl, by rw [HS.out]; exact World.ownsRow_nil _ _ _ _, by rw [HS.out, HW.out]; exact H5.out.wrong 3, by rw [HW.out]; exact (gb_of G5.out _).trans (wrongW_grown _ _ _ _)⟩
    · have e1 : decide (d < tk) = false := decide_eq_false hA1
      obtain ⟨hA2, rfl⟩ := hA.resolve_left hA1
      have e2 : (x.op == 19) = true := by simpa using hA2
      clear hA hA2
      go_wp2_with (go_at_call 36; refine WR.out.mono ?_; rintro e w6 ⟨rfl, hw6⟩; have HW := Lib.hid hw6; clear hw6)
      go_ret
      exact ⟨_, rfl, by rw [HS.out]; exact World.ownsRow_nil _ _ _ _, by rw [HS.out, HW.out]; exact H5.out.wrong 3, by rw [HW.out]; exact (gb_of G5.out _).trans (wrongW_grown _ _ _ _)⟩
  · have HS := Lib.hid (HST.out.trans (if_neg hA))
    have hA1 : ¬ d < tk := fun h => hA (Or.inl h)
    have e1 : decide (d < tk) = false := decide_eq_false hA1
    go_cut [61] from 43 to 60 (fun s61 wx => s61 = .bool false ∧ wx = w5)
    case first =>
      by_cases hA2 : x.op = 19
      · have e2 : (x.op == 19) = true := by simpa using hA2
        have hb : blk = true := by cases blk with
          | true => rfl
          | false => exact absurd (Or.inr ⟨hA2, rfl⟩) hA
        subst hb
        clear hA hA2
        go_wp2_with fail
        go_meet
        exact ⟨rfl, rfl⟩
      · have e2 : (x.op == 19) = false := by simpa using hA2
        clear hA hA2
        go_wp2_with fail
        go_meet
        exact ⟨rfl, rfl⟩
    case rest =>
      obtain ⟨rfl, hwc⟩ := hcut
      obtain rfl := hwc.symm
      clear hA
      have c8 : w5.cell? ⟨q.h, 8, none⟩ = some (.int .i64 c.most) := cell_of_row w5 _ 8 _ _ _ H5.out.cells
      have f8 : w5.frozen? ⟨q.h, 8, none⟩ = false := by unfold World.frozen?; rw [H5.out.cells]; rfl
      obtain ⟨m1, m2⟩ := I.most
      go_upto_region 10 with fail
      obtain ⟨hC6, hg6⟩ := H5.out.most (max c.most (max d (d - tk + pt)))
      generalize w5.setCell ⟨q.h, 8, none⟩ (.int .i64 (max c.most (max d (d - tk + pt)))) = w6 at *
      have hxh : bx ≠ q.h := by omega
      have qx6 := (hg6.block bx (Array.getElem?_eq_some_iff.1 QX5.out).1 (by simpa using hxh)).trans QX5.out
      have hs6 := hg6.size
      have hxl6 := (Array.getElem?_eq_some_iff.1 qx6).1
      have hbP6 : bP < w6.heap.size := by omega
      have H6 := Lib.hid hC6; have GB6 := Lib.hid ((gb_of G5.out (some q.h)).trans hg6)
      have X6 := Lib.hid (show ∀ W, Below w6.heap.size w6 W → (W.cell? ⟨bx, 0, none⟩ = some (.int .i64 x.op) ∧ W.cell? ⟨bx, 1, none⟩ = some (.int .i64 x.a) ∧ W.cell? ⟨bx, 2, none⟩ = some (.int .i64 x.b)) ∧ CkAt W B q v _ _ (.slice (some ⟨bP, 0, none⟩) c.parts.length cap) N from fun W hW => by
        have hq := (hW.block bx hxl6).trans qx6
        exact ⟨⟨cell_of_row W _ _ _ _ _ hq, cell_of_row W _ _ _ _ _ hq, cell_of_row W _ _ _ _ _ hq⟩, hC6.later hW⟩)
      generalize hnx : d - tk + pt = nx at *
      have hnx1 : -3000000000 ≤ nx ∧ nx ≤ 3000000000 := by omega
      obtain ⟨nx1, nx2⟩ := hnx1
      have HNX := Lib.hid hnx
      clear hnx c4 c7 c8 f8 k0 k2 k3 hlk3 x0 hC6 hg6 qx6
      obtain ⟨⟨x0, x1, x2⟩, -⟩ := X6.out w6 (Below.refl _ _)
      have J := Lib.hid (fun W => jumps_any x W)
      go_upto_if 80 with (go_at_call 38; refine (J.out _).mono ?_; rintro en w7 ⟨rfl, hg7⟩; have HG7 := Lib.hid hg7; clear hg7)
      clear x0 x1 x2
      obtain ⟨⟨x0, x1, x2⟩, -⟩ := X6.out w7 HG7.out
      have hs7 := HG7.out.size
      generalize hj1 : jumpsB x = jb
      have HJ1 := Lib.hid hj1; clear hj1
      go_cut [13] from 81 to 90 (fun s wx => OwnsG wx w6.heap.size s (jmpG x n nx bh) ∧ Below w6.heap.size w6 wx)
      case first =>
        cases jb
        · go_wp2_with fail
          go_meet
          exact ⟨by unfold jmpG; rw [HJ1.out]; exact World.ownsRow_nil _ _ _ _, HG7.out⟩
        · go_wp2_with (at_builtin; refine wpList_append_own _ rfl _ _ 98 rfl w6.heap.size 97 i3 (.agg #[.int .i64 0, .int .i64 0, .int .i64 0]) 3 24 Tryd.underlying98 gi gz0 gz1 gz2 rfl (by decide) (.slice none 0 0) 0 [] rfl (World.ownsRow_nil _ _ _ _) ⟨w7.heap.size, 0, none⟩ 1 1 [.int .i64 (bh + x.a), .int .i64 (n : Int), .int .i64 nx] rfl rfl ?c1 ?c2 ?c3 ?c4 ?c5 ?_)
          case c1 =>
            intro j u hj
            match j, hj with
            | 0, hj => simp at hj; subst hj; simp [Addr.add]
            | 1, hj => simp at hj; subst hj; simp [Addr.add]
            | 2, hj => simp at hj; subst hj; simp [Addr.add]
          case c2 => intro u hu; simp at hu; rcases hu with rfl | rfl | rfl <;> rfl
          case c3 => unfold maxLen; omega
          case c4 => omega
          case c5 => simp; omega
          intro v8 w8 hown' hgrow _
          have HO8 := Lib.hid (ownsG_push (gs := []) (g := ⟨bh + x.a, n, nx⟩) hown')
          have HB8 := Lib.hid (Below.grown (HG7.out.alloc hs7 (.cells #[.int .i64 (bh + x.a), .int .i64 (n : Int), .int .i64 nx] 97)) hgrow (by simp; omega) (fun k hk => by simp [Value.ownBlock] at hk))
          clear hown' hgrow
          go_wp2_with fail
          go_meet
          exact ⟨by unfold jmpG; rw [HJ1.out]; exact HO8.out, HB8.out⟩
      case rest =>
        obtain ⟨hO9, hB9⟩ := hcut
        obtain ⟨w9, hw9⟩ : ∃ w9, w9 = wc := ⟨_, rfl⟩
        rw [← hw9] at hO9 hB9 ⊢
        obtain ⟨v9, hv9⟩ : ∃ v9, v9 = u13 := ⟨_, rfl⟩
        rw [← hv9] at hO9 ⊢
        clear hw9 hv9 x0 x1 x2
        have hg1l : (jmpG x n nx bh).length ≤ 1 := by unfold jmpG; split <;> simp
        have HG1 := Lib.hid (show nextG c p n nx bh x = jmpG x n nx bh ++ blkG c p ++ nxtG x n nx (blkQ c p bh x) from rfl)
        generalize jmpG x n nx bh = g1 at *
        obtain ⟨⟨x0, x1, x2⟩, C9⟩ := X6.out w9 hB9
        have hs9 := hB9.size
        have c6 : w9.cell? ⟨q.h, 6, none⟩ = some (.map (some q.m2)) := cell_of_row w9 _ 6 _ _ _ C9.cells
        have c4 : w9.cell? ⟨q.h, 4, none⟩ = some (.slice (some ⟨bP, 0, none⟩) c.parts.length cap) := cell_of_row w9 _ 4 _ _ _ C9.cells
        have hlk2 := C9.blocks.lookOk hI64
        have hbb := I.blocks p
        have hbG : blkG c p = (if (c.blocks p).isSome then [⟨((c.parts.getD ((c.blocks p).getD 0).toNat ⟨0, 0, 0, false⟩).fr : Int), (c.blocks p).getD 0, (c.parts.getD ((c.blocks p).getD 0).toNat ⟨0, 0, 0, false⟩).deep⟩] else []) := by
          unfold blkG; cases c.blocks p <;> rfl
        have hbQ : blkQ c p bh x = if (c.blocks p).isSome then bh + x.b else bh := by
          unfold blkQ; cases c.blocks p <;> rfl
        have hk0 : (c.blocks p).isSome = true → 0 ≤ (c.blocks p).getD 0 ∧ (c.blocks p).getD 0 < c.parts.length := by
          intro hs
          cases hb : c.blocks p with
          | none => rw [hb] at hs; cases hs
          | some y => exact hbb y hb
        have hkI : -1 ≤ (c.blocks p).getD 0 := by
          cases hb : c.blocks p with
          | none => decide
          | some y => have := (hbb y hb).1; show -1 ≤ y; omega
        generalize (c.blocks p).getD 0 = kz at *
        generalize (c.blocks p).isSome = b0 at *
        have HO9 := Lib.hid hO9; have HB9 := Lib.hid hB9; have HC9 := Lib.hid C9; have HBG := Lib.hid hbG; have HBQ := Lib.hid hbQ; have HK0 := Lib.hid hk0
        clear hO9 hB9 C9 hbb hbG hbQ hk0
        go_upto_if 100 with fail
        go_cut [7, 13] from 101 to 125 (fun s7 s13 wx => s7 = .int .i64 (blkQ c p bh x) ∧ OwnsG wx w6.heap.size s13 (g1 ++ blkG c p) ∧ Below w6.heap.size w6 wx)
        case first =>
          cases b0
          · go_wp2_with fail
            go_meet
            exact ⟨by rw [HBQ.out]; rfl, by rw [HBG.out]; simpa using HO9.out, HB9.out⟩
          · obtain ⟨hk1, hk2⟩ := HK0.out rfl
            obtain ⟨kk, rfl⟩ := Int.eq_ofNat_of_zero_le hk1
            have hkl : kk < c.parts.length := by omega
            obtain ⟨bP', cap', hpv', -, -, -, y0, y2, -⟩ := HC9.out.partCells hkl
            simp only [Value.slice.injEq, Option.some.injEq, Addr.mk.injEq, true_and, and_true] at hpv'
            obtain ⟨rfl, rfl⟩ := hpv'
            have hBG2 := HBG.out
            rw [if_pos rfl] at hBG2
            simp only [Int.toNat_natCast] at hBG2
            have HBG2 := Lib.hid hBG2; clear hBG2
            generalize (c.parts.getD kk ⟨0, 0, 0, false⟩).fr = kf at *
            generalize (c.parts.getD kk ⟨0, 0, 0, false⟩).deep = kd at *
            have hbP9 : bP < w9.heap.size := by omega
            have hh9 := HC9.out.lt
            go_upto_region 15 with fail
            have Z0 := Lib.hid (show Below w9.heap.size w9 (w9.alloc (.cells #[.int .i64 (kf : Int), .int .i64 (kk : Int), .int .i64 kd] 97)).drew from ((Below.refl _ _).alloc (Nat.le_refl _) _).drew)
            have A0 := Lib.hid (show ((w9.alloc (.cells #[.int .i64 (kf : Int), .int .i64 (kk : Int), .int .i64 kd] 97)).drew).ownsRow w6.heap.size 97 3 v9 g1.length (glsC g1) from owns_later HO9.out Z0.out)
            have A1 := Lib.hid (show ∀ j u, ([Value.int .i64 (kf : Int), .int .i64 (kk : Int), .int .i64 kd])[j]? = some u → ((w9.alloc (.cells #[.int .i64 (kf : Int), .int .i64 (kk : Int), .int .i64 kd] 97)).drew).cell? ((⟨w9.heap.size, 0, none⟩ : Addr).add j) = some u by
              intro j u hj
              match j, hj with
              | 0, hj => simp at hj; subst hj; simp [Addr.add]
              | 1, hj => simp at hj; subst hj; simp [Addr.add]
              | 2, hj => simp at hj; subst hj; simp [Addr.add])
            have A2 := Lib.hid (show ∀ u ∈ [Value.int .i64 (kf : Int), .int .i64 (kk : Int), .int .i64 kd], u.oneCell' = true by intro u hu; simp at hu; rcases hu with rfl | rfl | rfl <;> rfl)
            have A3 := Lib.hid (show g1.length + 1 ≤ maxLen by unfold maxLen; omega)
            have A4 := Lib.hid (show (g1.length + 1) * 24 ≤ 140737488355328 by omega)
            have A5 := Lib.hid (show w6.heap.size ≤ ((w9.alloc (.cells #[.int .i64 (kf : Int), .int .i64 (kk : Int), .int .i64 kd] 97)).drew).heap.size by simp; omega)
            have FIN := Lib.hid (show ∀ (v18 : Value) (w18 : World), w18.ownsRow w6.heap.size 97 3 v18 (g1.length + 1) (glsC g1 ++ [.int .i64 (kf : Int), .int .i64 (kk : Int), .int .i64 kd]) → ((w9.alloc (.cells #[.int .i64 (kf : Int), .int .i64 (kk : Int), .int .i64 kd] 97)).drew).grownBy w18 v9.ownBlock →
                (w18.cell? ⟨q.h, 4, none⟩ = some (.slice (some ⟨bP, 0, none⟩) c.parts.length cap) ∧ w18.cell? ⟨bP, kk * 4, none⟩ = some (.int .i64 (kf : Int)) ∧ w18.cell? ⟨bP, kk * 4 + 2, none⟩ = some (.int .i64 kd) ∧ w18.cell? ⟨bx, 2, none⟩ = some (.int .i64 x.b)) ∧ OwnsG w18 w6.heap.size v18 (g1 ++ [⟨(kf : Int), (kk : Int), kd⟩]) ∧ Below w6.heap.size w6 w18 by
              intro v18 w18 hown hgr
              have hb18 : Below w6.heap.size w6 w18 := HB9.out.trans (Below.grown (((Below.refl w6.heap.size w9).alloc hs9 _).drew) hgr (by simp; omega) (fun j hj => (A0.out.lt j hj).1))
              have C18 := (X6.out w18 hb18).2
              refine ⟨⟨cell_of_row w18 _ 4 _ _ _ C18.cells, ?_, ?_, (X6.out w18 hb18).1.2.2⟩, ownsG_push hown, hb18⟩
              · rw [hb18.cell (p := ⟨bP, kk * 4, none⟩) hbP6, ← HB9.out.cell (p := ⟨bP, kk * 4, none⟩) hbP6]; exact y0
              · rw [hb18.cell (p := ⟨bP, kk * 4 + 2, none⟩) hbP6, ← HB9.out.cell (p := ⟨bP, kk * 4 + 2, none⟩) hbP6]; exact y2)
            go_region_held3 (fun w' => w'.cell? ⟨q.h, 4, none⟩ = some (.slice (some ⟨bP, 0, none⟩) c.parts.length cap) ∧ w'.cell? ⟨bP, kk * 4, none⟩ = some (.int .i64 (kf : Int)) ∧ w'.cell? ⟨bP, kk * 4 + 2, none⟩ = some (.int .i64 kd))
              (first | exact ⟨c4, y0, y2⟩ | exact ⟨r0, r1, r2⟩ | go_keep)
              (first
              | (refine step_append_own rfl (.tmp 101) (.tmp 120) 98 rfl w6.heap.size 97 i3 (.agg #[.int .i64 0, .int .i64 0, .int .i64 0]) 3 24 Tryd.underlying98 gi gz0 gz1 gz2 rfl (by decide) v9 _ _ (by simp [Act.eval]) A0.out ⟨w9.heap.size, 0, none⟩ 1 1 [.int .i64 (kf : Int), .int .i64 (kk : Int), .int .i64 kd] (by simp [Act.eval]) rfl A1.out A2.out A3.out A4.out A5.out ?_
                 intro v18 w18 hown18 hgr18
                 obtain ⟨⟨r0, r1, r2, r3⟩, hk18⟩ := FIN.out _ w18 hown18 hgr18
                 have HK18 := Lib.hid hk18
                 clear hown18 hgr18 hk18))
            clear x0 x1 x2 c4 y0 y2
            go_wp2_with fail
            go_meet
            exact ⟨by rw [HBQ.out]; rfl, by rw [HBG2.out]; exact HK18.out.1, HK18.out.2⟩
        case rest =>
          obtain ⟨rfl, hO20, hB20⟩ := hcut
          obtain ⟨w20, hw20⟩ : ∃ w20, w20 = wc := ⟨_, rfl⟩
          rw [← hw20] at hO20 hB20 ⊢
          obtain ⟨v20, hv20⟩ : ∃ v20, v20 = u13 := ⟨_, rfl⟩
          rw [← hv20] at hO20 ⊢
          clear hw20 hv20 x0 x1 x2 c4 c6 hlk2
          obtain ⟨⟨x0, x1, x2⟩, C20⟩ := X6.out w20 hB20
          have hs20 := hB20.size
          have hg2l : (g1 ++ blkG c p).length ≤ 2 := by
            rw [List.length_append, HBG.out]; split <;> simp <;> omega
          have HN := Lib.hid (HS.out.trans (by rw [HG1.out]))
          generalize blkQ c p bh x = bq at *
          generalize g1 ++ blkG c p = g2 at *
          have HO20 := Lib.hid hO20; have HB20 := Lib.hid hB20; have HC20 := Lib.hid C20
          clear hO20 hB20 C20
          by_cases o14 : x.op = 14
          · have NX := Lib.hid (show nxtG x n nx bq = [] by unfold nxtG; rw [if_neg (by omega)])
            have e14 : (x.op == 14) = true := by simpa using o14
            have e14' : (x.op != 14) = false := by simpa using o14
            clear o14
            go_wp2_with fail
            go_ret
            exact ⟨_, rfl, by rw [HN.out, NX.out, List.append_nil]; exact owns_base HO20.out (by have := GB6.out.size; omega), by rw [HN.out]; exact HC20.out, GB6.out.trans (gb_of HB20.out _)⟩
          · have e14 : (x.op == 14) = false := by simpa using o14
            have e14' : (x.op != 14) = true := by simpa using o14
            by_cases o18 : x.op = 18
            · have NX := Lib.hid (show nxtG x n nx bq = [] by unfold nxtG; rw [if_neg (by omega)])
              have e18 : (x.op == 18) = true := by simpa using o18
              have e18' : (x.op != 18) = false := by simpa using o18
              clear o14 o18
              go_wp2_with fail
              go_ret
              exact ⟨_, rfl, by rw [HN.out, NX.out, List.append_nil]; exact owns_base HO20.out (by have := GB6.out.size; omega), by rw [HN.out]; exact HC20.out, GB6.out.trans (gb_of HB20.out _)⟩
            · have e18 : (x.op == 18) = false := by simpa using o18
              have e18' : (x.op != 18) = true := by simpa using o18
              by_cases o19 : x.op = 19
              · have NX := Lib.hid (show nxtG x n nx bq = [] by unfold nxtG; rw [if_neg (by omega)])
                have e19 : (x.op == 19) = true := by simpa using o19
                have e19' : (x.op != 19) = false := by simpa using o19
                clear o14 o18 o19
                go_wp2_with fail
                go_ret
                exact ⟨_, rfl, by rw [HN.out, NX.out, List.append_nil]; exact owns_base HO20.out (by have := GB6.out.size; omega), by rw [HN.out]; exact HC20.out, GB6.out.trans (gb_of HB20.out _)⟩
              · have NX := Lib.hid (show nxtG x n nx bq = [⟨bq, n, nx⟩] by unfold nxtG; rw [if_pos ⟨o14, o18, o19⟩])
                have e19 : (x.op == 19) = false := by simpa using o19
                have e19' : (x.op != 19) = true := by simpa using o19
                clear o14 o18 o19
                go_wp2_with (at_builtin; refine wpList_append_own _ rfl _ _ 98 rfl w6.heap.size 97 i3 (.agg #[.int .i64 0, .int .i64 0, .int .i64 0]) 3 24 Tryd.underlying98 gi gz0 gz1 gz2 rfl (by decide) v20 _ _ rfl ((show w20.ownsRow w6.heap.size 97 3 v20 g2.length (glsC g2) from HO20.out).alloc _) ⟨w20.heap.size, 0, none⟩ 1 1 [.int .i64 bq, .int .i64 (n : Int), .int .i64 nx] rfl rfl ?c1 ?c2 ?c3 ?c4 ?c5 ?_)
                case c1 =>
                  intro j u hj
                  match j, hj with
                  | 0, hj => simp at hj; subst hj; simp [Addr.add]
                  | 1, hj => simp at hj; subst hj; simp [Addr.add]
                  | 2, hj => simp at hj; subst hj; simp [Addr.add]
                case c2 => intro u hu; simp at hu; rcases hu with rfl | rfl | rfl <;> rfl
                case c3 => unfold maxLen; omega
                case c4 => omega
                case c5 => simp; omega
                intro v21 w21 hown' hgrow _
                have HO21 := Lib.hid (ownsG_push (g := ⟨bq, n, nx⟩) hown')
                have HB21 := Lib.hid (Below.grown (HB20.out.alloc hs20 (.cells #[.int .i64 bq, .int .i64 (n : Int), .int .i64 nx] 97)) hgrow (by simp; omega) (fun k hk => ((show w20.ownsRow w6.heap.size 97 3 v20 g2.length (glsC g2) from HO20.out).lt k hk).1))
                clear hown' hgrow
                go_wp2_with fail
                go_ret
                exact ⟨_, rfl, by rw [HN.out, NX.out]; exact owns_base HO21.out (by have := GB6.out.size; omega), by rw [HN.out]; exact (X6.out w21 HB21.out).2, GB6.out.trans (gb_of HB21.out _)⟩
end Go.Proofs.YtnajgpefmknmpaaDoor
