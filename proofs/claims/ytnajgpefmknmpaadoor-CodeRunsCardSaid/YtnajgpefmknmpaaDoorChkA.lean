/- The checker lays a part. -/
import Derived.Test.YtnajgpefmknmpaaDoorCodeY
import Derived.Deep.Cut
import Derived.Deep.CutRange
import Derived.Deep.CutBlock
import Derived.Deep.RegionHeld3
import Derived.StillTailTactics
namespace Go.Proofs.YtnajgpefmknmpaaDoor
open Go.RowKit Go.Maps
set_option linter.unusedVariables false
theorem BytesAt.head {w : World} {v : Value} {l : List UInt8} (h : BytesAt w v l) (n : Nat) (hin : n ≤ l.length) :
    ∃ v', BytesAt w v' (l.take n) ∧ ∀ W, (Instr.slice 29 v none (some (.int .i64 (n : Int))) none).run Tryd.prog W = .ok v' W := by
  obtain ⟨a, cap, rfl, h1, h2, h3, h5⟩ := h
  have hlen : (l.take n).length = n := by rw [List.length_take]; omega
  refine ⟨sliced a 0 n cap 1, ⟨if cap = 0 then a else a.map (·.add (0 * 1)), cap, ?_, ?_, h2, ?_, ?_⟩, fun W => ?_⟩
  · unfold sliced; rw [hlen]; rfl
  · rw [hlen]; omega
  · rcases Nat.eq_zero_or_pos n with h0 | h0
    · subst h0; left; simp [Lib.byteCells]
    · rcases h3 with h3 | ⟨b, o, rfl, hc⟩
      · have : (Lib.byteCells l).length = 0 := by rw [h3]; rfl
        rw [Lib.byteCells_length] at this; omega
      · right
        rw [if_neg (by omega)]
        refine ⟨b, o, by simp [Addr.add], fun j hj => ?_⟩
        have hjn : j < n := by rw [Lib.byteCells_length, hlen] at hj; exact hj
        rw [hc j (by rw [Lib.byteCells_length]; omega)]
        unfold Lib.byteCells
        rw [List.getElem?_map, List.getElem?_map, List.getElem?_take, if_pos hjn]
  · intro ha
    cases a with
    | none => exact h5 rfl
    | some a => split at ha <;> simp at ha
  · have := run_slice_h (P := Tryd.prog) (w := W) 29 a l.length cap (by kernel_rfl) .i64 (n : Int) (by omega) (by omega)
    rw [this, sizeByte]
    simp only [Result.andThen, Int.toNat_natCast]
theorem intInfo : (Tryd.prog.info? 3).map (fun i => (i.zero, i.size, i.bytes)) = some (some (.int .i64 0), 1, 8) := by kernel_rfl
theorem partInfo : (Tryd.prog.info? 82).map (fun i => (i.zero, i.size, i.bytes)) = some (some (.agg #[.int .i64 0, .int .i64 0, .int .i64 0, .bool false]), 4, 32) := by kernel_rfl
theorem dec_b0 {l : List UInt8} {k : Nat} (h : k < l.length) (he : (decI l k).2.2 = 0) : 0 ≤ (decI l k).1.b := by
  obtain ⟨c, -, -, -, -, -, -, h6⟩ := dec_ok h he
  rw [h6]; unfold getZ; simp
/-- a row of numbers of the call's own -/
def OwnsI (w : World) (B : Nat) (v : Value) (gs : List Int) : Prop := w.ownsRow B 3 1 v gs.length (gs.map (Value.int .i64))
theorem ownsI_of {w : World} {B : Nat} {v : Value} {gs : List Int} {z : Int} (h : w.ownsRow B 3 1 v (gs.length + 1) (gs.map (Value.int .i64) ++ [.int .i64 z])) : OwnsI w B v (gs ++ [z]) := by
  unfold OwnsI
  rw [List.length_append, List.map_append]
  exact h
theorem BytesAt.keep {w w' : World} {B : Nat} {v : Value} {l : List UInt8} (h : BytesAt w v l) (hbv : l ≠ [] → ∀ b o len cap, v = .slice (some ⟨b, o, none⟩) len cap → b < B) (hb : Below B w w') : BytesAt w' v l := by
  obtain ⟨a, cap, hv, h1, h2, h3, h4⟩ := h
  refine ⟨a, cap, hv, h1, h2, ?_, h4⟩
  by_cases hl : l = []
  · subst hl; exact Or.inl rfl
  · rcases h3 with h3 | ⟨b, o, ha, hc⟩
    · exact Or.inl h3
    · subst ha
      have hlt := hbv hl b o _ _ hv
      exact Or.inr ⟨b, o, rfl, fun j hj => (hb.cell (p := ⟨b, o + j, none⟩) hlt).trans (hc j hj)⟩
/-- what the caller holds besides: its part, its instruction, its jumps -/
structure Loc (w : World) (bp bx : Nat) (pf pt : Nat) (pd : Int) (pb : Bool) (x : Ins) (s5 : Value) (gs : List Int) : Prop where
  part : w.heap[bp]? = some (.cells #[.int .i64 (pf : Int), .int .i64 (pt : Int), .int .i64 pd, .bool pb] 82 (0, 0))
  ins : w.heap[bx]? = some (.cells #[.int .i64 x.op, .int .i64 x.a, .int .i64 x.b] 27 (0, 0))
  row : OwnsI w bp s5 gs
theorem Loc.later {w w' : World} {bp bx pf pt : Nat} {pd : Int} {pb : Bool} {x : Ins} {s5 : Value} {gs : List Int} (h : Loc w bp bx pf pt pd pb x s5 gs) (hb : Below w.heap.size w w') : Loc w' bp bx pf pt pd pb x s5 gs :=
  ⟨(hb.block _ (Array.getElem?_eq_some_iff.1 h.part).1).trans h.part, (hb.block _ (Array.getElem?_eq_some_iff.1 h.ins).1).trans h.ins, owns_later h.row hb⟩
theorem Loc.grown {w w' : World} {bp bx pf pt k : Nat} {pd : Int} {pb : Bool} {x : Ins} {s5 : Value} {gs : List Int} (h : Loc w bp bx pf pt pd pb x s5 gs) (hg : w.grownBy w' (some k)) (h1 : bp ≠ k) (h2 : bx ≠ k) (h3 : s5.ownBlock ≠ some k) : Loc w' bp bx pf pt pd pb x s5 gs :=
  ⟨(hg.block _ (Array.getElem?_eq_some_iff.1 h.part).1 (by simpa using h1)).trans h.part, (hg.block _ (Array.getElem?_eq_some_iff.1 h.ins).1 (by simpa using h2)).trans h.ins, own_grown h.row hg (fun j hj => by injection hj with hj; subst hj; exact h3)⟩
theorem Loc.wrong {w : World} {B N bp bx pf pt : Nat} {pd : Int} {pb : Bool} {x : Ins} {s5 : Value} {gs : List Int} {q : Pl} {v pv : Value} {W : Wd} {c : Ck} (h : Loc w bp bx pf pt pd pb x s5 gs) (H : CkAt w B q v W c pv N) (y : Int) : Loc (wrongW w q.h c.e y) bp bx pf pt pd pb x s5 gs :=
  h.grown (wrongW_grown w q.h c.e y) (by rintro rfl; have := h.part.symm.trans H.cells; injection this with this; injection this with _ this; exact absurd this (by decide)) (by rintro rfl; have := h.ins.symm.trans H.cells; injection this with this; injection this with _ this; exact absurd this (by decide)) (own_ne_cells h.row H.cells (by decide))
theorem Loc.map {w w' : World} {bp bx pf pt k M : Nat} {pd : Int} {pb : Bool} {x : Ins} {s5 : Value} {gs : List Int} {f : Int → Option Int} (h : Loc w bp bx pf pt pd pb x s5 gs) (hm : MapI w k f M) (hg : w.grownBy w' (some k)) : Loc w' bp bx pf pt pd pb x s5 gs :=
  h.grown hg (hm.ne_cells h.part) (hm.ne_cells h.ins) (own_ne_map h.row hm)
/-- the jumps' row grows -/
theorem Loc.push {w w' : World} {bp bx pf pt : Nat} {pd : Int} {pb : Bool} {x : Ins} {s5 s6 : Value} {gs gs' : List Int} (h : Loc w bp bx pf pt pd pb x s5 gs) (hg : w.grownBy w' s5.ownBlock) (ho : OwnsI w' bp s6 gs') : Loc w' bp bx pf pt pd pb x s6 gs' :=
  ⟨(hg.block _ (Array.getElem?_eq_some_iff.1 h.part).1 (fun e => own_ne_cells h.row h.part (by decide) e.symm)).trans h.part, (hg.block _ (Array.getElem?_eq_some_iff.1 h.ins).1 (fun e => own_ne_cells h.row h.ins (by decide) e.symm)).trans h.ins, ho⟩
theorem below_wrong {B h : Nat} {w : World} {e y : Int} (hB : B ≤ h) : Below B w (wrongW w h e y) := by
  unfold wrongW; split
  · exact (Below.refl _ _).setCell (p := ⟨h, 9, none⟩) hB _
  · exact Below.refl _ _
theorem below_grown {B k : Nat} {w w' : World} (hB : B ≤ k) (hw : B ≤ w.heap.size) (hg : w.grownBy w' (some k)) : Below B w w' :=
  (Below.refl B w).grown hg hw (fun j hj => by injection hj with hj; omega)
/-- the pieces of a round, in the order of the text -/
theorem layG_end {l : List UInt8} {W : Wd} {P : Pt} {n f p : Nat} {gs : List Int} {c : Ck} (h : P.to_ ≤ p) : layG l W P n f p gs c = (gs, c) := by
  cases f with
  | zero => rfl
  | succ f => unfold layG; rw [if_pos h]
theorem layG_bad {l : List UInt8} {W : Wd} {P : Pt} {n f p : Nat} {gs : List Int} {c : Ck} (h : p < P.to_) (he : (decI (l.take P.to_) p).2.2 ≠ 0) :
    layG l W P n (f + 1) p gs c = (gs, { c with e := wrongE c.e (decI (l.take P.to_) p).2.2 }) := by
  conv => lhs; unfold layG
  rw [if_neg (by omega)]
  unfold layStep
  simp only [if_pos he]
/-- what is written down of an instruction that is one -/
def layC1 (W : Wd) (n p : Nat) (x : Ins) (c : Ck) : Ck := { c with of_ := upd c.of_ p n, e := if opsOk W x then c.e else wrongE c.e 3 }
def layG1 (q : Int) (x : Ins) (gs : List Int) : List Int := if jumpsB x then gs ++ [q + x.a] else gs
theorem layG_plain {l : List UInt8} {W : Wd} {P : Pt} {n f p q : Nat} {gs : List Int} {c : Ck} {x : Ins} (h : p < P.to_) (hd : decI (l.take P.to_) p = (x, (q : Int), 0)) (hx : x.op ≠ 17) :
    layG l W P n (f + 1) p gs c = layG l W P n f q (layG1 q x gs) (layC1 W n p x c) := by
  conv => lhs; unfold layG
  rw [if_neg (by omega)]
  unfold layStep
  simp only [hd, if_neg hx, ne_eq, not_true_eq_false, if_false, Int.toNat_natCast]
  rfl
theorem layG_over {l : List UInt8} {W : Wd} {P : Pt} {n f p q : Nat} {gs : List Int} {c : Ck} {x : Ins} (h : p < P.to_) (hd : decI (l.take P.to_) p = (x, (q : Int), 0)) (hx : x.op = 17) (ho : P.to_ < q + x.b.toNat) :
    layG l W P n (f + 1) p gs c = (layG1 q x gs, { layC1 W n p x c with e := wrongE (layC1 W n p x c).e 4 }) := by
  conv => lhs; unfold layG
  rw [if_neg (by omega)]
  unfold layStep
  simp only [hd, if_pos hx, ne_eq, not_true_eq_false, if_false, Int.toNat_natCast, if_pos ho]
  rfl
theorem layG_block {l : List UInt8} {W : Wd} {P : Pt} {n f p q : Nat} {gs : List Int} {c : Ck} {x : Ins} (h : p < P.to_) (hd : decI (l.take P.to_) p = (x, (q : Int), 0)) (hx : x.op = 17) (ho : ¬ P.to_ < q + x.b.toNat) :
    layG l W P n (f + 1) p gs c = layG l W P n f (q + x.b.toNat) (layG1 q x gs) { layC1 W n p x c with blocks := upd c.blocks p c.parts.length, parts := c.parts ++ [⟨q, q + x.b.toNat, x.a, true⟩] } := by
  conv => lhs; unfold layG
  rw [if_neg (by omega)]
  unfold layStep
  simp only [hd, if_pos hx, ne_eq, not_true_eq_false, if_false, Int.toNat_natCast, if_neg ho]
  rfl
/-- what lay gives -/
def LayPost (l : List UInt8) (B : Nat) (q : Pl) (v : Value) (W : Wd) (c : Ck) (n N : Nat) (w : World) (e : Ending) (w' : World) : Prop :=
  ∃ pv' M, e = .returned (.tuple #[]) ∧ CkAt w' B q v W (layM l W n c) pv' M ∧ M ≤ N + l.length ∧ Below B w w'
set_option maxRecDepth 100000 in
set_option maxHeartbeats 4000000 in
theorem lay_any (l : List UInt8) (B : Nat) (q : Pl) (v pv : Value) (W : Wd) (c : Ck) (n N : Nat) (w : World) (hv : BytesAt w v l) (hl : l.length ≤ 2000) (H : CkAt w B q v W c pv N) (hn : n < c.parts.length) (hpl : c.parts.length ≤ 1000000)
    (hP : (c.parts.getD n ⟨0, 0, 0, false⟩).fr ≤ (c.parts.getD n ⟨0, 0, 0, false⟩).to_ ∧ (c.parts.getD n ⟨0, 0, 0, false⟩).to_ ≤ l.length) (hN : N ≤ 10000000) (hbv : l ≠ [] → ∀ b o len cap, v = .slice (some ⟨b, o, none⟩) len cap → b < B) :
    Calls Tryd.prog 30 #[.pointer (some ⟨q.h, 0, none⟩), .int .i64 (n : Int)] w (LayPost l B q v W c n N w) := by
  have HH := Lib.hid H
  obtain ⟨i1, si, sz0, sz1, sz2⟩ := info_parts intInfo
  obtain ⟨i2, ti, tz0, tz1, tz2⟩ := info_parts partInfo
  obtain ⟨pa, pc, hpv, hpc, hpm, hprow, -, hplen⟩ : ∃ a cap, pv = .slice a c.parts.length cap ∧ c.parts.length ≤ cap ∧ cap ≤ maxLen ∧ (∃ b, a = some ⟨b, 0, none⟩ ∧ b < w.heap.size ∧ ∀ j, j < c.parts.length * 4 → w.cell? ⟨b, j, none⟩ = (ptsC c.parts)[j]?) ∧ True ∧ True := by
    rcases H.row.2 with ⟨hv', h0⟩ | ⟨g, cap, cur, hv', hB, hg, hn', hm, hs, ht⟩
    · have := ptsC_length c.parts; rw [h0] at this; simp at this; omega
    · refine ⟨_, cap, hv', hn', hm, ⟨g, rfl, (Array.getElem?_eq_some_iff.1 hg).1, fun j hj => ?_⟩, trivial, trivial⟩
      have e : w.cell? ⟨g, j, none⟩ = cur[j]? := by simp [World.cell?, hg]
      rw [e, ← ht, List.getElem?_take, if_pos (by omega)]
      simp
  obtain ⟨bP, rfl, hbP, hcellP⟩ := hprow
  have hnget : c.parts.getD n ⟨0, 0, 0, false⟩ = c.parts[n] := by rw [List.getD_eq_getElem?_getD, List.getElem?_eq_getElem hn]; rfl
  obtain ⟨a0, a1, a2, a3⟩ := ptsC_at c.parts n hn
  have y0 := (hcellP (n * 4) (by omega)).trans a0
  have y1 := (hcellP (n * 4 + 1) (by omega)).trans a1
  have y2 := (hcellP (n * 4 + 2) (by omega)).trans a2
  have y3 := (hcellP (n * 4 + 3) (by omega)).trans a3
  rw [hnget] at hP
  have HM := Lib.hid (show layM l W n c = { (layG l W c.parts[n] n ((c.parts[n]).to_ - (c.parts[n]).fr) (c.parts[n]).fr [] c).2 with e := goalsE (layG l W c.parts[n] n ((c.parts[n]).to_ - (c.parts[n]).fr) (c.parts[n]).fr [] c).2.of_ n (layG l W c.parts[n] n ((c.parts[n]).to_ - (c.parts[n]).fr) (c.parts[n]).fr [] c).1 (layG l W c.parts[n] n ((c.parts[n]).to_ - (c.parts[n]).fr) (c.parts[n]).fr [] c).2.e } by unfold layM; rw [hnget])
  generalize c.parts[n] = P at *
  obtain ⟨pf, pt, pd, pb⟩ := P
  simp only at y0 y1 y2 y3 hP HM
  obtain ⟨hP1, hP2⟩ := hP
  have c4 : w.cell? ⟨q.h, 4, none⟩ = some (.slice (some ⟨bP, 0, none⟩) c.parts.length pc) := (cell_of_row w _ 4 _ _ _ H.cells).trans (by rw [hpv]; rfl)
  have hlt := H.lt
  have hpvb : pv.ownBlock ≠ some w.heap.size := fun e => by have := own_lt H.row _ e; omega
  have HPV := Lib.hid hpvb
  clear hcellP a0 a1 a2 a3 hnget H hpv hpvb
  generalize hnp : c.parts.length = np at *
  have HNP := Lib.hid hnp; clear hnp
  go_enter Tryd.func30, Tryd.ntmps30
  go_upto_block 0 with fail
  have q1 : (w.alloc (.cells #[.int .i64 (pf : Int), .int .i64 (pt : Int), .int .i64 pd, .bool pb] 82)).heap[w.heap.size]? = some (.cells #[.int .i64 (pf : Int), .int .i64 (pt : Int), .int .i64 pd, .bool pb] 82 (0, 0)) := heap_alloc_new w _
  have g1 : Below w.heap.size w (w.alloc (.cells #[.int .i64 (pf : Int), .int .i64 (pt : Int), .int .i64 pd, .bool pb] 82)) := (Below.refl _ _).alloc (Nat.le_refl _) _
  generalize w.alloc (.cells #[.int .i64 (pf : Int), .int .i64 (pt : Int), .int .i64 pd, .bool pb] 82) = w1 at *
  have hBw : B ≤ w.heap.size := Nat.le_of_lt (Nat.lt_of_le_of_lt HH.out.bh hlt)
  have Q1 := Lib.hid q1; have G1 := Lib.hid g1; have HV := Lib.hid hv; have HBV := Lib.hid hbv
  have H1 := Lib.hid (HH.out.later g1)
  have hws := g1.size
  have hw1 : w.heap.size < w1.heap.size := lt_of_cell (cell_of_row w1 _ 0 _ _ _ q1)
  clear q1 g1 hv hbv y0 y1 y2 y3 c4
  generalize hbp : w.heap.size = bp at *
  have HBP := Lib.hid hbp; clear hbp
  go_cut [5, 6, 7, 8, 9] from 21 to 107 (fun g5 g6 g7 g8 g9 wx => ∃ gs c' pv' M, layG l W ⟨pf, pt, pd, pb⟩ n (pt - pf) pf [] c = (gs, c') ∧ CkAt wx B q v W c' pv' M ∧ M ≤ N + l.length ∧ OwnsI wx bp g5 gs ∧ gs.length ≤ l.length ∧ (∀ z ∈ gs, -1000000 ≤ z ∧ z ≤ 1000000) ∧ Below B w1 wx)
  case first =>
    go_wp2_with fail
    go_loopg [5, 6] (pt - pf) (fun g s5 s6 wr => ∃ (f p : Nat) (gs : List Int) (c' : Ck) (pv' : Value) (M : Nat), g = f ∧ s6 = .int .i64 p ∧ pf ≤ p ∧ p ≤ pt ∧ pt - p ≤ f ∧ layG l W ⟨pf, pt, pd, pb⟩ n (pt - pf) pf [] c = layG l W ⟨pf, pt, pd, pb⟩ n f p gs c' ∧ CkAt wr B q v W c' pv' M ∧ M + pf ≤ N + p ∧ np ≤ c'.parts.length ∧ c'.parts.length + pf ≤ np + p ∧ OwnsI wr bp s5 gs ∧ gs.length + pf ≤ p ∧ (∀ z ∈ gs, -1000000 ≤ z ∧ z ≤ 1000000) ∧
      wr.heap[bp]? = some (.cells #[.int .i64 (pf : Int), .int .i64 (pt : Int), .int .i64 pd, .bool pb] 82 (0, 0)) ∧ pv'.ownBlock ≠ some bp ∧ Below B w1 wr)
    case atStart => exact ⟨pt - pf, pf, [], c, pv, N, rfl, rfl, Nat.le_refl _, hP1, Nat.le_refl _, rfl, H1.out, Nat.le_refl _, by rw [HNP.out]; exact Nat.le_refl _, by rw [HNP.out]; exact Nat.le_refl _, World.ownsRow_nil _ _ _ _, by simp, by simp, Q1.out, HPV.out, Below.refl _ _⟩
    case round =>
      obtain ⟨f, p, gs, c', pv', M, hgf, rfl, hp1, hp2, hpf, hR, hC, hM, hnp1, hnp2, hO, hgl, hgz, hQ, hne, hB⟩ := hrel
      have HGF := Lib.hid hgf; have HR := Lib.hid hR; have HC := Lib.hid hC; have HO := Lib.hid hO; have HGZ := Lib.hid hgz; have HQ := Lib.hid hQ; have HNE := Lib.hid hne; have HB := Lib.hid hB
      have y1 : wr.cell? ⟨bp, 1, none⟩ = some (.int .i64 (pt : Int)) := cell_of_row wr _ 1 _ _ _ hQ
      have hwr := hB.size
      have c0 : wr.cell? ⟨q.h, 0, none⟩ = some v := cell_of_row wr _ 0 _ _ _ hC.cells
      have hhr := hC.lt
      clear hgf hR hC hO hgz hQ hne hB
      by_cases hlt2 : p < pt
      · obtain ⟨f', rfl⟩ : ∃ f', f = f' + 1 := ⟨f - 1, by omega⟩
        have hv2 := HV.out.keep HBV.out (((G1.out.mono hBw).trans HB.out))
        obtain ⟨v2, hv2', hsl⟩ := hv2.head pt hP2
        have HV2 := Lib.hid hv2'
        have hdl : p < (l.take pt).length := by rw [List.length_take]; omega
        have hdl2 : (l.take pt).length ≤ 100000 := by rw [List.length_take]; omega
        have FX := Lib.hid (show ∀ W, Below wr.heap.size wr W → W.cell? ⟨q.h, 0, none⟩ = some v ∧ W.cell? ⟨bp, 1, none⟩ = some (.int .i64 (pt : Int)) from fun W hW => ⟨(hW.cell (p := ⟨q.h, 0, none⟩) hhr).trans c0, (hW.cell (p := ⟨bp, 1, none⟩) (lt_of_cell y1)).trans y1⟩)
        have FZ := Lib.hid (show ∀ w8 : World, w8.heap[wr.heap.size]? = some (.cells #[.int .i64 0, .int .i64 0, .int .i64 0] 27 (0, 0)) →
            w8.cell? ⟨wr.heap.size, 0, none⟩ = some (.int .i64 0) ∧ w8.cell? ⟨wr.heap.size, 1, none⟩ = some (.int .i64 0) ∧ w8.cell? ⟨wr.heap.size, 2, none⟩ = some (.int .i64 0) ∧
            w8.frozen? ⟨wr.heap.size, 0, none⟩ = false ∧ w8.frozen? ⟨wr.heap.size, 1, none⟩ = false ∧ w8.frozen? ⟨wr.heap.size, 2, none⟩ = false by
          intro w8 h
          refine ⟨?_, ?_, ?_, ?_, ?_, ?_⟩
          all_goals first
            | exact cell_of_row w8 _ _ _ _ _ h
            | (unfold World.frozen?; rw [h]; rfl))
        have D := Lib.hid (show ∀ W, Below wr.heap.size wr W → Calls Tryd.prog 12 #[v2, .int .i64 (p : Int)] W fun e w' => e = .returned (.tuple #[.agg #[.int .i64 (decI (l.take pt) p).1.op, .int .i64 (decI (l.take pt) p).1.a, .int .i64 (decI (l.take pt) p).1.b], .int .i64 (decI (l.take pt) p).2.1, .int .i64 (decI (l.take pt) p).2.2]) ∧ Below W.heap.size W w' from fun W hW => dec_any v2 (l.take pt) (p : Int) W (HV2.out.later hW) hdl2)
        have HD := Lib.hid (show decI (l.take pt) p = ((decI (l.take pt) p).1, (decI (l.take pt) p).2.1, (decI (l.take pt) p).2.2) from rfl)
        have DOK := Lib.hid (@dec_ok (l.take pt) p hdl)
        have DRG := Lib.hid (@dec_range (l.take pt) p hdl)
        have DB0 := Lib.hid (@dec_b0 (l.take pt) p hdl)
        have LBAD := Lib.hid (fun he => @layG_bad l W ⟨pf, pt, pd, pb⟩ n f' p gs c' hlt2 he)
        generalize (decI (l.take pt) p).2.2 = er at *
        generalize (decI (l.take pt) p).2.1 = bh at *
        generalize (decI (l.take pt) p).1 = x at *
        have RLb := Lib.hid (show Calls Tryd.prog 12 #[v2, .int .i64 (p : Int)] wr.drew fun e w8 => e = .returned (.tuple #[.agg #[.int .i64 x.op, .int .i64 x.a, .int .i64 x.b], .int .i64 bh, .int .i64 er]) ∧ Below wr.heap.size wr w8 ∧ w8.cell? ⟨q.h, 0, none⟩ = some v ∧ w8.cell? ⟨bp, 1, none⟩ = some (.int .i64 (pt : Int)) from (D.out _ (Below.refl _ _).drew).mono fun e w8 h => by
          have hh : Below wr.heap.size wr w8 := (Below.refl _ wr).drew.trans h.2
          exact ⟨h.1, hh, FX.out w8 hh⟩)
        have RLa := Lib.hid (show Calls Tryd.prog 12 #[v2, .int .i64 (p : Int)] (wr.alloc (.cells #[.int .i64 0, .int .i64 0, .int .i64 0] 27)).drew fun e w8 => e = .returned (.tuple #[.agg #[.int .i64 x.op, .int .i64 x.a, .int .i64 x.b], .int .i64 bh, .int .i64 er]) ∧ Below wr.heap.size wr w8 ∧ (w8.cell? ⟨q.h, 0, none⟩ = some v ∧ w8.cell? ⟨bp, 1, none⟩ = some (.int .i64 (pt : Int))) ∧ Hid (w8.heap[wr.heap.size]? = some (.cells #[.int .i64 0, .int .i64 0, .int .i64 0] 27 (0, 0))) ∧
            w8.cell? ⟨wr.heap.size, 0, none⟩ = some (.int .i64 0) ∧ w8.cell? ⟨wr.heap.size, 1, none⟩ = some (.int .i64 0) ∧ w8.cell? ⟨wr.heap.size, 2, none⟩ = some (.int .i64 0) ∧
            w8.frozen? ⟨wr.heap.size, 0, none⟩ = false ∧ w8.frozen? ⟨wr.heap.size, 1, none⟩ = false ∧ w8.frozen? ⟨wr.heap.size, 2, none⟩ = false from (D.out _ (((Below.refl _ wr).alloc (Nat.le_refl _) _).drew)).mono fun e w8 h => by
          have hh : Below wr.heap.size wr w8 := (((Below.refl _ wr).alloc (Nat.le_refl _) _).drew).trans (h.2.mono (by simp))
          have hq := (h.2.block wr.heap.size (by simp)).trans (heap_alloc_new wr _)
          exact ⟨h.1, hh, FX.out w8 hh, Lib.hid hq, FZ.out w8 hq⟩)
        go_upto_region 4 with fail
        go_cut [7, 8, 9] from 25 to 37 (fun s7 s8 s9 wx => ∃ bx, s7 = .pointer (some ⟨bx, 0, none⟩) ∧ s8 = .int .i64 bh ∧ s9 = .int .i64 er ∧ wr.heap.size ≤ bx ∧ Below wr.heap.size wr wx ∧ wx.heap[bx]? = some (.cells #[.int .i64 x.op, .int .i64 x.a, .int .i64 x.b] 27 (0, 0)))
        case first =>
          go_region_held3 (fun w' => w'.cell? ⟨q.h, 0, none⟩ = some v ∧ w'.cell? ⟨bp, 1, none⟩ = some (.int .i64 (pt : Int)))
            (first | (with_reducible exact ⟨z0, z1⟩) | (refine FX.out _ ?_; repeat (first | with_reducible exact Below.refl _ _ | ((with_reducible refine Below.setCell ?_ ?_ _); rotate_left; focus (first | (simp; done) | (simp; omega) | omega)) | ((with_reducible refine Below.alloc ?_ ?_ _); rotate_left; focus (first | (simp; done) | (simp; omega) | omega)) | (with_reducible refine Below.drew ?_) | ((with_reducible refine Below.trans ?_ (Below.mono hh8 ?_)); rotate_left; focus (first | (simp; done) | (simp; omega) | omega)))) | (refine FX.out _ ?_; repeat (first | with_reducible exact Below.refl _ _ | ((with_reducible refine Below.setCell ?_ ?_ _); rotate_left; focus (first | (simp; done) | (simp; omega) | omega)) | ((with_reducible refine Below.alloc ?_ ?_ _); rotate_left; focus (first | (simp; done) | (simp; omega) | omega)) | (with_reducible refine Below.drew ?_))))
            (first | (go_at_call 12; with_reducible (refine RLb.out.mono ?_); rintro e w8 ⟨rfl, hh8, z0, z1⟩; have hs8 := hh8.size) | (go_at_call 12; with_reducible (refine RLa.out.mono ?_); rintro e w8 ⟨rfl, hh8, ⟨z0, z1⟩, HQ8, p0, p1, p2, e0, e1, e2⟩; have hs8 := hh8.size))
          all_goals (go_wp2_with fail)
          all_goals go_meet
          · exact ⟨w8.heap.size, rfl, rfl, rfl, hs8, hh8.alloc hs8 _, heap_alloc_new w8 _⟩
          · refine ⟨wr.heap.size, rfl, rfl, rfl, Nat.le_refl _, ?_, ?_⟩
            · repeat (first | with_reducible exact Below.refl _ _ | ((with_reducible refine Below.setCell ?_ ?_ _); rotate_left; focus (first | (simp; done) | (simp; omega) | omega)) | ((with_reducible refine Below.alloc ?_ ?_ _); rotate_left; focus (first | (simp; done) | (simp; omega) | omega)) | (with_reducible refine Below.drew ?_) | ((with_reducible refine Below.trans ?_ (Below.mono hh8 ?_)); rotate_left; focus (first | (simp; done) | (simp; omega) | omega)))
            · rw [heap_setCell_same _ _ _ _ _ _ (heap_setCell_same _ _ _ _ _ _ (heap_setCell_same _ _ _ _ _ _ HQ8.out))]
              rfl
        case rest =>
          obtain ⟨bx, rfl, rfl, rfl, hbx, hg9, hq9⟩ := hcut
          obtain ⟨w9, hw9⟩ : ∃ w9, w9 = wc := ⟨_, rfl⟩
          rw [← hw9] at hg9 hq9 ⊢
          clear hw9 RLa RLb FX FZ c0 y1 hsl D
          have C9 := HC.out.later hg9
          have L9 : Loc w9 bp bx pf pt pd pb x u5 gs := ⟨(hg9.block _ (Array.getElem?_eq_some_iff.1 HQ.out).1).trans HQ.out, hq9, owns_later HO.out hg9⟩
          have hB9 : Below B w1 w9 := HB.out.trans (hg9.mono (Nat.le_of_lt (Nat.lt_of_le_of_lt HC.out.bh hhr)))
          by_cases he : er = 0
          · subst he
            obtain ⟨cc, hc20, -, hxo, hbh, hbq, -, -⟩ := DOK.out rfl
            obtain ⟨ra1, ra2, rb1, rb2⟩ := DRG.out rfl
            have rb0 := DB0.out rfl
            have hb0 := hbq
            rw [List.length_take] at hbq
            have hbpos : p < p + 1 + (fmOf (cc : Int)).a + (fmOf (cc : Int)).b := by omega
            have hb17 : x.op = 17 → p + 2 ≤ p + 1 + (fmOf (cc : Int)).a + (fmOf (cc : Int)).b := by
              intro h
              have h17 : cc = 17 := by omega
              subst h17
              show p + 2 ≤ p + 1 + 1 + 2
              omega
            generalize p + 1 + (fmOf (cc : Int)).a + (fmOf (cc : Int)).b = bq at *
            subst hbh
            have hbq2 : bq ≤ pt := by omega
            have HDX := Lib.hid HD.out
            have hxo17 : x.op ≤ 19 ∧ 0 ≤ x.op := by rw [hxo]; omega
            have hI64p : I64 (p : Int) := ⟨by omega, by omega⟩
            have hI64n : I64 (n : Int) := ⟨by omega, by omega⟩
            obtain ⟨w10, hrun1, hm1, hgr1⟩ := C9.of_.store hI64p hI64n (by omega)
            have C10 := C9.store1 hm1 hgr1
            have L10 := L9.map C9.of_ hgr1
            have c95 : w9.cell? ⟨q.h, 5, none⟩ = some (.map (some q.m1)) := cell_of_row w9 _ 5 _ _ _ C9.cells
            have x0 := cell_of_row w10 _ 0 _ _ _ L10.ins
            have x1 := cell_of_row w10 _ 1 _ _ _ L10.ins
            have x2 := cell_of_row w10 _ 2 _ _ _ L10.ins
            simp at x0 x1 x2
            have hB10 : Below B w1 w10 := hB9.trans (below_grown C9.b1 (Nat.le_of_lt (Nat.lt_of_le_of_lt C9.bh C9.lt)) hgr1)
            have OP := Lib.hid (operands_any q v pv' W c'.most c'.e x w10 C10.cells)
            have HC10 := Lib.hid C10; have HL10 := Lib.hid L10; have HB10 := Lib.hid hB10
            clear hm1 hgr1 C9 L9 hB9 C10 L10 hB10 hg9 hq9 DOK DRG DB0 LBAD HD hxo hb0
            go_upto_if 52 with (go_at_call 37; refine OP.out.mono ?_; rintro en w11 ⟨rfl, hg11⟩; have HC11 := Lib.hid (HC10.out.later hg11); have HL11 := Lib.hid (HL10.out.later hg11); have HB11 := Lib.hid (HB10.out.trans (hg11.mono (Nat.le_of_lt (Nat.lt_of_le_of_lt HC10.out.bh HC10.out.lt)))); clear hg11)
            generalize hok1 : opsOk W x = ok1
            have HOK1 := Lib.hid hok1; clear hok1
            go_cut [] from 53 to 54 (fun wx => CkAt wx B q v W (layC1 W n p x c') pv' (M + 1) ∧ Loc wx bp bx pf pt pd pb x u5 gs ∧ Below B w1 wx)
            case first =>
              cases ok1
              · go_wp2_with fail
                refine (wrong_any q v pv' W c'.most c'.e 3 w11 HC11.out.cells).mono ?_
                rintro en w12 ⟨rfl, rfl⟩
                generalize hw12 : wrongW w11 q.h c'.e 3 = w12
                have HW := Lib.hid hw12; clear hw12
                go_wp2_with fail
                go_meet
                refine ⟨?_, by rw [← HW.out]; exact HL11.out.wrong HC11.out 3, HB11.out.trans (by rw [← HW.out]; exact below_wrong HC11.out.bh)⟩
                have := HC11.out.wrong 3
                rw [← HW.out]
                unfold layC1
                rw [HOK1.out]
                exact this
              · go_wp2_with fail
                go_meet
                refine ⟨?_, HL11.out, HB11.out⟩
                have := HC11.out
                unfold layC1
                rw [HOK1.out]
                exact this
            case rest =>
              obtain ⟨C12, L12, B12⟩ := hcut
              obtain ⟨w12, hw12⟩ : ∃ w12, w12 = wc := ⟨_, rfl⟩
              rw [← hw12] at C12 L12 B12 ⊢
              clear hw12 x0 x1 x2 c95 hrun1 OP
              have x0 := cell_of_row w12 _ 0 _ _ _ L12.ins
              have x1 := cell_of_row w12 _ 1 _ _ _ L12.ins
              have x2 := cell_of_row w12 _ 2 _ _ _ L12.ins
              simp at x0 x1 x2
              have HC12 := Lib.hid C12; have HL12 := Lib.hid L12; have HB12 := Lib.hid B12
              clear C12 L12 B12
              have J := Lib.hid (jumps_any x w12)
              go_upto_if 56 with (go_at_call 38; refine J.out.mono ?_; rintro en w13 ⟨rfl, hg13⟩; have HC13 := Lib.hid (HC12.out.later hg13); have HL13 := Lib.hid (HL12.out.later hg13); have HB13 := Lib.hid (HB12.out.trans (hg13.mono (Nat.le_of_lt (Nat.lt_of_le_of_lt HC12.out.bh HC12.out.lt)))); clear hg13)
              generalize hj1 : jumpsB x = jb
              have HJ1 := Lib.hid hj1; clear hj1
              have x1' := cell_of_row w13 _ 1 _ _ _ HL13.out.ins
              simp at x1'
              go_cut [5] from 57 to 63 (fun s5 wx => CkAt wx B q v W (layC1 W n p x c') pv' (M + 1) ∧ Loc wx bp bx pf pt pd pb x s5 (layG1 bq x gs) ∧ Below B w1 wx)
              case first =>
                cases jb
                · go_wp2_with fail
                  go_meet
                  exact ⟨HC13.out, by unfold layG1; rw [HJ1.out]; exact HL13.out, HB13.out⟩
                · have hs13 := HB13.out.size
                  go_wp2_with (at_builtin; refine wpList_append_own _ rfl _ _ 92 rfl bp 3 i1 (.int .i64 0) 1 8 Tryd.underlying92 si sz0 sz1 sz2 rfl (by decide) u5 _ _ rfl ((show w13.ownsRow bp 3 1 u5 gs.length (gs.map (Value.int .i64)) from HL13.out.row).alloc _) ⟨w13.heap.size, 0, none⟩ 1 1 [.int .i64 ((bq : Int) + x.a)] rfl rfl ?c1 ?c2 ?c3 ?c4 ?c5 ?_)
                  case c1 =>
                    intro j u hj
                    match j, hj with
                    | 0, hj => simp at hj; subst hj; simp [Addr.add]
                  case c2 => intro u hu; simp at hu; subst hu; rfl
                  case c3 => unfold maxLen; omega
                  case c4 => omega
                  case c5 => simp; omega
                  intro v5 w14 hown' hgrow _
                  have z14 : Below w13.heap.size w13 (w13.alloc (.cells #[.int .i64 ((bq : Int) + x.a)] 3)) := (Below.refl _ _).alloc (Nat.le_refl _) _
                  have HO14 := Lib.hid (ownsI_of hown')
                  have HC14 := Lib.hid ((HC13.out.later z14).other ((show w13.ownsRow bp 3 1 u5 gs.length (gs.map (Value.int .i64)) from HL13.out.row).alloc _) (by decide) (by decide) hgrow)
                  have HL14 := Lib.hid ((HL13.out.later z14).push hgrow (ownsI_of hown'))
                  have HB14 := Lib.hid (Below.grown (HB13.out.alloc (by omega) (.cells #[.int .i64 ((bq : Int) + x.a)] 3)) hgrow (by simp; omega) (fun k hk => Nat.le_trans (by omega) (((show w13.ownsRow bp 3 1 u5 gs.length (gs.map (Value.int .i64)) from HL13.out.row).lt k hk).1)))
                  clear hown' hgrow z14
                  go_wp2_with fail
                  go_meet
                  exact ⟨HC14.out, by unfold layG1; rw [HJ1.out]; exact HL14.out, HB14.out⟩
              case rest =>
                obtain ⟨C15, L15, B15⟩ := hcut
                obtain ⟨w15, hw15⟩ : ∃ w15, w15 = wc := ⟨_, rfl⟩
                rw [← hw15] at C15 L15 B15 ⊢
                obtain ⟨v5, hv5⟩ : ∃ v5, v5 = u5 := ⟨_, rfl⟩
                rw [← hv5] at L15 ⊢
                clear hw15 hv5 x0 x1 x2 x1' J
                have x0 := cell_of_row w15 _ 0 _ _ _ L15.ins
                have x1 := cell_of_row w15 _ 1 _ _ _ L15.ins
                have x2 := cell_of_row w15 _ 2 _ _ _ L15.ins
                have y1 := cell_of_row w15 _ 1 _ _ _ L15.part
                simp at x0 x1 x2 y1
                have hgl1 : (layG1 bq x gs).length ≤ gs.length + 1 := by unfold layG1; split <;> simp
                have hgz1 : ∀ z ∈ layG1 bq x gs, -1000000 ≤ z ∧ z ≤ 1000000 := by
                  intro z hz
                  unfold layG1 at hz
                  split at hz
                  · rcases List.mem_append.1 hz with hz | hz
                    · exact HGZ.out z hz
                    · simp at hz; subst hz; omega
                  · exact HGZ.out z hz
                have HC15 := Lib.hid C15; have HL15 := Lib.hid L15; have HB15 := Lib.hid B15; have HGZ1 := Lib.hid hgz1
                clear C15 L15 B15 hgz1
                by_cases hx17 : x.op = 17
                · have e17 : (x.op == 17) = true := by simpa using hx17
                  by_cases hov : pt < bq + x.b.toNat
                  · have ho1 : decide ((pt : Int) < (bq : Int) + x.b) = true := by simp; omega
                    have HLG := Lib.hid (@layG_over l W ⟨pf, pt, pd, pb⟩ n f' p bq gs c' x hlt2 HDX.out hx17 hov)
                    clear hx17
                    go_wp2_with fail
                    refine (wrong_any q v pv' W (layC1 W n p x c').most (layC1 W n p x c').e 4 w15 HC15.out.cells).mono ?_
                    rintro en w16 ⟨rfl, rfl⟩
                    generalize hw16 : wrongW w15 q.h (layC1 W n p x c').e 4 = w16
                    have HW := Lib.hid hw16; clear hw16
                    go_wp2_with fail
                    go_meet
                    exact ⟨layG1 bq x gs, _, pv', M + 1, HR.out.trans HLG.out, by rw [← HW.out]; exact HC15.out.wrong 4, by omega, by rw [← HW.out]; exact (HL15.out.wrong HC15.out 4).row, by omega, HGZ1.out, HB15.out.trans (by rw [← HW.out]; exact below_wrong HC15.out.bh)⟩
                  · have ho1 : decide ((pt : Int) < (bq : Int) + x.b) = false := by simp; omega
                    have HLG := Lib.hid (@layG_block l W ⟨pf, pt, pd, pb⟩ n f' p bq gs c' x hlt2 HDX.out hx17 hov)
                    have hb2 := hb17 hx17
                    clear hx17
                    have hpos : 0 < c'.parts.length := by omega
                    obtain ⟨pa', pc', hpv'⟩ : ∃ a cap, pv' = .slice a c'.parts.length cap := by
                      rcases HC15.out.row.2 with ⟨hv', h0⟩ | ⟨g, cap, cur, hv', -⟩
                      · have := ptsC_length (layC1 W n p x c').parts
                        rw [h0] at this
                        have h2 : (layC1 W n p x c').parts.length = c'.parts.length := rfl
                        simp at this; omega
                      · exact ⟨_, cap, hv'⟩
                    subst hpv'
                    have c6 : w15.cell? ⟨q.h, 6, none⟩ = some (.map (some q.m2)) := cell_of_row w15 _ 6 _ _ _ HC15.out.cells
                    have c4 : w15.cell? ⟨q.h, 4, none⟩ = some (.slice pa' c'.parts.length pc') := cell_of_row w15 _ 4 _ _ _ HC15.out.cells
                    have hnl : c'.parts.length ≤ 2000000 := by omega
                    go_upto_region 15 with fail
                    go_still_tail 10, (by kernel_rfl)
                    change wpList _ _ _ _ _ w15.drew
                    obtain ⟨w16, hw16⟩ : ∃ z, z = w15.drew := ⟨_, rfl⟩
                    rw [← hw16]
                    have z16 : Below w15.heap.size w15 w16 := by rw [hw16]; exact (Below.refl _ _).drew
                    have C16 := HC15.out.later z16
                    have L16 := HL15.out.later z16
                    have B16 : Below B w1 w16 := by rw [hw16]; exact HB15.out.drew
                    clear hw16 z16 x0 x1 x2 y1 c6 c4
                    obtain ⟨w17, hrun2, hm2, hgr2⟩ := C16.blocks.store hI64p (y := (c'.parts.length : Int)) ⟨by omega, by omega⟩ (by omega)
                    have C17 := C16.store2 hm2 hgr2
                    have L17 := L16.map C16.blocks hgr2
                    have B17 := B16.trans (below_grown C16.b2 (Nat.le_of_lt (Nat.lt_of_le_of_lt C16.bh C16.lt)) hgr2)
                    have HC17 := Lib.hid C17; have HL17 := Lib.hid L17; have HB17 := Lib.hid B17
                    clear hm2 hgr2 C16 L16 B16 C17 L17 B17
                    have x1 := cell_of_row w17 _ 1 _ _ _ HL17.out.ins
                    have x2 := cell_of_row w17 _ 2 _ _ _ HL17.out.ins
                    simp at x1 x2
                    have hbxl := lt_of_cell x1
                    have hhl := HC17.out.lt
                    have c4 : w17.cell? ⟨q.h, 4, none⟩ = some (.slice pa' c'.parts.length pc') := cell_of_row w17 _ 4 _ _ _ HC17.out.cells
                    have hw17 := HB17.out.size
                    have hB17w : B ≤ w17.heap.size := Nat.le_of_lt (Nat.lt_of_le_of_lt HC17.out.bh hhl)
                    have wsum : IntKind.i64.wrap ((bq : Int) + x.b) = (bq : Int) + x.b := IntWalk.i64_in _ (by omega)
                    have hxb : ((bq + x.b.toNat : Nat) : Int) = (bq : Int) + x.b := by omega
                    go_upto_region 16 with fail
                    have Z0 := Lib.hid (show Below w17.heap.size w17 (w17.alloc (.cells #[.int .i64 (bq : Int), .int .i64 ((bq : Int) + x.b), .int .i64 x.a, .bool true] 82)).drew from ((Below.refl _ _).alloc (Nat.le_refl _) _).drew)
                    have A0 := Lib.hid (show ((w17.alloc (.cells #[.int .i64 (bq : Int), .int .i64 ((bq : Int) + x.b), .int .i64 x.a, .bool true] 82)).drew).ownsRow B 82 4 (.slice pa' c'.parts.length pc') c'.parts.length (ptsC c'.parts) from owns_later HC17.out.row Z0.out)
                    have A1 := Lib.hid (show ∀ j u, ([Value.int .i64 (bq : Int), .int .i64 ((bq : Int) + x.b), .int .i64 x.a, .bool true])[j]? = some u → ((w17.alloc (.cells #[.int .i64 (bq : Int), .int .i64 ((bq : Int) + x.b), .int .i64 x.a, .bool true] 82)).drew).cell? ((⟨w17.heap.size, 0, none⟩ : Addr).add j) = some u by
                      intro j u hj
                      match j, hj with
                      | 0, hj => simp at hj; subst hj; simp [Addr.add]
                      | 1, hj => simp at hj; subst hj; simp [Addr.add]
                      | 2, hj => simp at hj; subst hj; simp [Addr.add]
                      | 3, hj => simp at hj; subst hj; simp [Addr.add])
                    have A2 := Lib.hid (show ∀ u ∈ [Value.int .i64 (bq : Int), .int .i64 ((bq : Int) + x.b), .int .i64 x.a, .bool true], u.oneCell' = true by intro u hu; simp at hu; rcases hu with rfl | rfl | rfl | rfl <;> rfl)
                    have A3 := Lib.hid (show c'.parts.length + 1 ≤ maxLen by unfold maxLen; omega)
                    have A4 := Lib.hid (show (c'.parts.length + 1) * 32 ≤ 140737488355328 by omega)
                    have A5 := Lib.hid (show B ≤ ((w17.alloc (.cells #[.int .i64 (bq : Int), .int .i64 ((bq : Int) + x.b), .int .i64 x.a, .bool true] 82)).drew).heap.size by simp; omega)
                    have FIN := Lib.hid (show ∀ (v18 : Value) (w18 : World), w18.ownsRow B 82 4 v18 (c'.parts.length + 1) (ptsC c'.parts ++ [.int .i64 (bq : Int), .int .i64 ((bq : Int) + x.b), .int .i64 x.a, .bool true]) → ((w17.alloc (.cells #[.int .i64 (bq : Int), .int .i64 ((bq : Int) + x.b), .int .i64 x.a, .bool true] 82)).drew).grownBy w18 (Value.slice pa' c'.parts.length pc').ownBlock →
                        (w18.cell? ⟨q.h, 4, none⟩ = some (.slice pa' c'.parts.length pc') ∧ w18.frozen? ⟨q.h, 4, none⟩ = false ∧ w18.cell? ⟨bx, 1, none⟩ = some (.int .i64 x.a) ∧ w18.cell? ⟨bx, 2, none⟩ = some (.int .i64 x.b) ∧ (w18.setCell ⟨q.h, 4, none⟩ v18).cell? ⟨bx, 1, none⟩ = some (.int .i64 x.a) ∧ (w18.setCell ⟨q.h, 4, none⟩ v18).cell? ⟨bx, 2, none⟩ = some (.int .i64 x.b)) ∧
                        CkAt (w18.setCell ⟨q.h, 4, none⟩ v18) B q v W { layC1 W n p x c' with blocks := upd c'.blocks p c'.parts.length, parts := c'.parts ++ [⟨bq, bq + x.b.toNat, x.a, true⟩] } v18 (M + 1 + 1) ∧ Loc (w18.setCell ⟨q.h, 4, none⟩ v18) bp bx pf pt pd pb x v5 (layG1 bq x gs) ∧ v18.ownBlock ≠ some bp ∧ Below B w1 (w18.setCell ⟨q.h, 4, none⟩ v18) by
                      intro v18 w18 hown hgr
                      have C0 := HC17.out.later Z0.out
                      have L0 := HL17.out.later Z0.out
                      have hp : ptC ⟨bq, bq + x.b.toNat, x.a, true⟩ = [.int .i64 (bq : Int), .int .i64 ((bq : Int) + x.b), .int .i64 x.a, .bool true] := by unfold ptC; rw [hxb]
                      have C18 := C0.push (p := ⟨bq, bq + x.b.toNat, x.a, true⟩) (by rw [hp]; exact hown) hgr
                      have hne1 : (Value.slice pa' c'.parts.length pc').ownBlock ≠ some bp := HNE.out
                      have hc18 : w18.heap[q.h]? = _ := (hgr.block _ C0.lt (fun e => C0.ne_row e.symm)).trans C0.cells
                      have hx18 : w18.heap[bx]? = _ := (hgr.block _ (Array.getElem?_eq_some_iff.1 L0.ins).1 (fun e => own_ne_cells C0.row L0.ins (by decide) e.symm)).trans L0.ins
                      have hp18 : w18.heap[bp]? = _ := (hgr.block _ (Array.getElem?_eq_some_iff.1 L0.part).1 (fun e => hne1 e.symm)).trans L0.part
                      have hxh : bx ≠ q.h := by rintro rfl; have := hx18.symm.trans hc18; injection this with this; injection this with _ this; exact absurd this (by decide)
                      have hph : bp ≠ q.h := by rintro rfl; have := hp18.symm.trans hc18; injection this with this; injection this with _ this; exact absurd this (by decide)
                      have hx19 : (w18.setCell ⟨q.h, 4, none⟩ v18).heap[bx]? = _ := (Below.heap_setCell _ _ _ _ hxh).trans hx18
                      have hp19 : (w18.setCell ⟨q.h, 4, none⟩ v18).heap[bp]? = _ := (Below.heap_setCell _ _ _ _ hph).trans hp18
                      have hr18 : w18.ownsRow bp 3 1 v5 (layG1 bq x gs).length ((layG1 bq x gs).map (Value.int .i64)) := own_grown L0.row hgr (fun k hk he => by
                        obtain ⟨d1, d2, d3⟩ := own_row_cells C0.row k hk
                        obtain ⟨d4, d5, d6⟩ := own_row_cells L0.row k he
                        rw [d3] at d6; injection d6 with d6; injection d6 with _ d6; exact absurd d6 (by decide))
                      have hs18 : w18.grownBy (w18.setCell ⟨q.h, 4, none⟩ v18) (some q.h) := ⟨rfl, rfl, rfl, by simp, fun k hk hne => Below.heap_setCell _ _ _ _ (by simpa using hne)⟩
                      refine ⟨⟨cell_of_row w18 _ 4 _ _ _ hc18, by unfold World.frozen?; rw [hc18]; rfl, cell_of_row w18 _ 1 _ _ _ hx18, cell_of_row w18 _ 2 _ _ _ hx18, cell_of_row _ _ 1 _ _ _ hx19, cell_of_row _ _ 2 _ _ _ hx19⟩, C18.mono (by omega), ⟨hp19, hx19, own_grown hr18 hs18 (fun k hk => by injection hk with hk; subst hk; exact own_ne_cells hr18 hc18 (by decide))⟩, own_ne_small hown hp18 (by show 4 < _; omega), ?_⟩
                      refine Below.setCell (p := ⟨q.h, 4, none⟩) ?_ HC17.out.bh _
                      exact HB17.out.trans (Below.grown (((Below.refl B w17).alloc hB17w _).drew) hgr (by simp; omega) (fun k hk => (A0.out.lt k hk).1)))
                    go_cut [] from 86 to 102 (fun wx => ∃ v18, CkAt wx B q v W { layC1 W n p x c' with blocks := upd c'.blocks p c'.parts.length, parts := c'.parts ++ [⟨bq, bq + x.b.toNat, x.a, true⟩] } v18 (M + 1 + 1) ∧ Loc wx bp bx pf pt pd pb x v5 (layG1 bq x gs) ∧ v18.ownBlock ≠ some bp ∧ Below B w1 wx)
                    case first =>
                      go_region_law (refine step_append_own rfl (.tmp 90) (.tmp 99) 83 rfl B 82 i2 (.agg #[.int .i64 0, .int .i64 0, .int .i64 0, .bool false]) 4 32 Tryd.underlying83 ti tz0 tz1 tz2 rfl (by decide) (.slice pa' c'.parts.length pc') _ _ (by simp [Act.eval]) A0.out ⟨w17.heap.size, 0, none⟩ 1 1 [.int .i64 (bq : Int), .int .i64 ((bq : Int) + x.b), .int .i64 x.a, .bool true] (by simp [Act.eval]) rfl A1.out A2.out A3.out A4.out A5.out ?_
                                     intro v18 w18 hown18 hgr18
                                     obtain ⟨a18, c18, rfl⟩ := own_shape hown18
                                     obtain ⟨⟨r0, r1, r2, r3, r4, r5⟩, hk18⟩ := FIN.out _ w18 hown18 hgr18
                                     have HK18 := Lib.hid hk18
                                     clear hown18 hgr18 hk18)
                      all_goals (go_wp2_with fail)
                      all_goals go_meet
                      all_goals exact ⟨_, HK18.out⟩
                    case rest =>
                      obtain ⟨v18, C19, L19, N19, B19⟩ := hcut
                      obtain ⟨w19, hw19⟩ : ∃ w19, w19 = wc := ⟨_, rfl⟩
                      rw [← hw19] at C19 L19 B19 ⊢
                      clear hw19 x1 x2 c4 A0 A1 A2 A3 A4 A5 FIN
                      have x2 := cell_of_row w19 _ 2 _ _ _ L19.ins
                      simp at x2
                      have HC19 := Lib.hid C19; have HL19 := Lib.hid L19; have HN19 := Lib.hid N19; have HB19 := Lib.hid B19; have HXB := Lib.hid hxb
                      clear C19 L19 N19 B19 wsum hxb hrun2
                      go_wp2_with fail
                      go_roundg f'
                      case measure => rw [HGF.out]; omega
                      case rel => exact ⟨f', bq + x.b.toNat, layG1 bq x gs, _, v18, M + 1 + 1, rfl, by rw [HXB.out], by omega, by omega, by omega, HR.out.trans HLG.out, HC19.out, by omega, by show np ≤ (c'.parts ++ [_]).length; rw [List.length_append]; omega, by show (c'.parts ++ [_]).length + pf ≤ _; rw [List.length_append, List.length_singleton]; omega, HL19.out.row, by omega, HGZ1.out, HL19.out.part, HN19.out, HB19.out⟩
                · have e17 : (x.op == 17) = false := by simpa using hx17
                  have HLG := Lib.hid (@layG_plain l W ⟨pf, pt, pd, pb⟩ n f' p bq gs c' x hlt2 HDX.out hx17)
                  clear hx17
                  go_wp2_with fail
                  go_roundg f'
                  case measure => rw [HGF.out]; omega
                  case rel => exact ⟨f', bq, layG1 bq x gs, layC1 W n p x c', pv', M + 1, rfl, rfl, by omega, hbq2, by omega, HR.out.trans HLG.out, HC15.out, by omega, hnp1, by show c'.parts.length + pf ≤ _; omega, HL15.out.row, by omega, HGZ1.out, HL15.out.part, HNE.out, HB15.out⟩
          · have hn0 : (er == 0) = false := by simpa using he
            have hn1 : (er != 0) = true := by simpa using he
            have HE := Lib.hid (LBAD.out he)
            have HC9 := Lib.hid C9; have HL9 := Lib.hid L9; have HB9 := Lib.hid hB9
            clear C9 L9 hB9 hg9 hq9 he DOK DRG DB0 LBAD HD
            go_wp2_with fail
            refine (wrong_any q v pv' W c'.most c'.e er w9 HC9.out.cells).mono ?_
            rintro en w10 ⟨rfl, rfl⟩
            generalize hw10 : wrongW w9 q.h c'.e er = w10
            have HW := Lib.hid hw10; clear hw10
            go_wp2_with fail
            go_meet
            exact ⟨gs, _, pv', M, HR.out.trans HE.out, by rw [← HW.out]; exact HC9.out.wrong er, by omega, by rw [← HW.out]; exact (HL9.out.wrong HC9.out er).row, by omega, HGZ.out, HB9.out.trans (by rw [← HW.out]; exact below_wrong HC9.out.bh)⟩
      · have hpp : p = pt := by omega
        have HE := Lib.hid (HR.out.trans (layG_end (by show pt ≤ p; omega)))
        go_wp2_with fail
        go_meet
        exact ⟨gs, c', pv', M, HE.out, HC.out, by omega, HO.out, by omega, HGZ.out, HB.out⟩
  case rest =>
    obtain ⟨gs, c', pv', M, hR, C2, hM, hO, hgl, hgz, hB⟩ := hcut
    obtain ⟨w2, hw2⟩ : ∃ w2, w2 = wc := ⟨_, rfl⟩
    rw [← hw2] at C2 hO hB ⊢
    clear hw2
    obtain ⟨ga, gc, hgv⟩ := own_shape hO
    obtain ⟨gb, hgb⟩ : ∃ gb, gs ≠ [] → ga = some ⟨gb, 0, none⟩ := by
      rcases hO.2 with ⟨hv', h0⟩ | ⟨g, cap, cur, hv', -⟩
      · exact ⟨0, fun h => absurd (List.length_eq_zero_iff.1 h0) h⟩
      · rw [hgv] at hv'; injection hv' with e1; exact ⟨g, fun _ => e1⟩
    have HGB := Lib.hid hgb; clear hgb
    have HR := Lib.hid (HM.out.trans (by rw [hR]))
    have HGV := Lib.hid hgv
    have HC2 := Lib.hid C2; have HO := Lib.hid hO; have HB := Lib.hid hB; have HGZ := Lib.hid hgz
    clear hR C2 hO hB hgz HM
    rw [hgv]
    clear hgv
    generalize hgn : gs.length = gn at *
    have HGN := Lib.hid hgn; clear hgn
    go_wp2_with fail
    go_loopg [110] gn (fun g i wr => ∃ k : Nat, g = gn - k ∧ k ≤ gn ∧ i = .int .i64 k ∧ CkAt wr B q v W { c' with e := goalsE c'.of_ n (gs.take k) c'.e } pv' M ∧ OwnsI wr bp u5 gs ∧ Below B w2 wr)
    case atStart => exact ⟨0, rfl, by omega, rfl, HC2.out, HO.out, Below.refl _ _⟩
    case round =>
      obtain ⟨k, hgk, hk, rfl, hC, hO3, hB3⟩ := hrel
      have HK := Lib.hid hgk; have HC := Lib.hid hC; have HO3 := Lib.hid hO3; have HB3 := Lib.hid hB3
      clear hgk hC hO3 hB3
      by_cases hlt3 : k < gn
      · have hkl : k < gs.length := by rw [HGN.out]; exact hlt3
        obtain rfl := HGB.out (by rintro rfl; simp at hkl)
        have hz := HGZ.out gs[k] (List.getElem_mem hkl)
        have hcell : wr.cell? ⟨gb, k, none⟩ = some (.int .i64 gs[k]) := by
          have := HO3.out.cells (g := gb) (by rw [HGV.out]; rfl) k (.int .i64 gs[k]) (by rw [List.getElem?_map, List.getElem?_eq_getElem hkl]; rfl)
          have e : (⟨gb, 0, none⟩ : Addr).add k = ⟨gb, k, none⟩ := by unfold Addr.add; split <;> simp_all
          rwa [e] at this
        have HT := Lib.hid (show goalsE c'.of_ n (gs.take (k + 1)) c'.e = if c'.of_ gs[k] = some (n : Int) then goalsE c'.of_ n (gs.take k) c'.e else wrongE (goalsE c'.of_ n (gs.take k) c'.e) 3 by
          unfold goalsE; rw [List.take_succ_eq_append_getElem hkl, List.foldl_append]; rfl)
        have WI := Lib.hid (within_any q v pv' W c'.most (goalsE c'.of_ n (gs.take k) c'.e) gs[k] (n : Int) c'.of_ M wr HC.out.cells HC.out.of_ ⟨by omega, by omega⟩ ⟨by omega, by omega⟩)
        generalize gs[k] = z at *
        by_cases hin : c'.of_ z = some (n : Int)
        · rw [decide_eq_true hin] at WI
          rw [if_pos hin] at HT
          clear hin
          go_wp2_with fail
          refine WI.out.mono ?_
          rintro en w4 ⟨rfl, hw4⟩
          obtain rfl := hw4.symm
          go_wp2_with fail
          go_roundg (gn - (k + 1))
          case measure => rw [HK.out]; omega
          case rel => exact ⟨k + 1, rfl, by omega, by go_num, by rw [HT.out]; exact HC.out, HO3.out, HB3.out⟩
        · rw [decide_eq_false hin] at WI
          rw [if_neg hin] at HT
          clear hin
          go_wp2_with fail
          refine WI.out.mono ?_
          rintro en w4 ⟨rfl, hw4⟩
          obtain rfl := hw4.symm
          go_wp2_with fail
          refine (wrong_any q v pv' W c'.most (goalsE c'.of_ n (gs.take k) c'.e) 3 wr HC.out.cells).mono ?_
          rintro en w5 ⟨rfl, rfl⟩
          generalize hw5 : wrongW wr q.h (goalsE c'.of_ n (gs.take k) c'.e) 3 = w5
          have HW := Lib.hid hw5; clear hw5
          go_wp2_with fail
          go_roundg (gn - (k + 1))
          case measure => rw [HK.out]; omega
          case rel => exact ⟨k + 1, rfl, by omega, by go_num, by rw [HT.out, ← HW.out]; exact HC.out.wrong 3, by rw [← HW.out]; exact own_grown HO3.out (wrongW_grown _ _ _ _) (fun j hj => by injection hj with hj; subst hj; exact own_ne_cells HO3.out HC.out.cells (by decide)), HB3.out.trans (by rw [← HW.out]; exact below_wrong HC.out.bh)⟩
      · obtain rfl : k = gn := by omega
        go_wp2_with fail
        go_end0
        exact ⟨pv', M, rfl, by rw [HR.out]; have := HC.out; rwa [List.take_of_length_le (by rw [HGN.out]; omega)] at this, hM, (G1.out.mono hBw).trans (HB.out.trans HB3.out)⟩
end Go.Proofs.YtnajgpefmknmpaaDoor
