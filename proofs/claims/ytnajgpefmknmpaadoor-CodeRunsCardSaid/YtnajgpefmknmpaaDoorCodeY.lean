/- The checker in memory: what leaves it as it is, and what its writers make of it. -/
import Derived.Test.YtnajgpefmknmpaaDoorCodeX
namespace Go.Proofs.YtnajgpefmknmpaaDoor
open Go.RowKit Go.Maps
set_option linter.unusedVariables false
theorem MapI.map_block {w : World} {b n : Nat} {f : Int → Option Int} (h : MapI w b f n) : ∃ es cl, w.heap[b]? = some (.map es cl) := by
  obtain ⟨D, ⟨es, clock, h1, -⟩, -⟩ := h; exact ⟨es, clock, h1⟩
theorem MapI.ne_cells {w : World} {b n k : Nat} {f : Int → Option Int} (h : MapI w b f n) {cs : Array Value} {t : TypeId} {fz : Nat × Nat} (hk : w.heap[k]? = some (.cells cs t fz)) : k ≠ b := by
  rintro rfl
  obtain ⟨es, cl, h1⟩ := h.map_block
  rw [hk] at h1; cases h1
theorem MapI.later {w w' : World} {b n : Nat} {f : Int → Option Int} (h : MapI w b f n) (hb : Below w.heap.size w w') : MapI w' b f n := h.block (hb.block b h.lt)
theorem MapI.grown {w w' : World} {b n : Nat} {f : Int → Option Int} {row : Option Nat} (h : MapI w b f n) (hg : w.grownBy w' row) (hne : some b ≠ row) : MapI w' b f n := h.block (hg.block b h.lt hne)
/-- a row of another type, a map -/
theorem own_ne_cells {w : World} {B e size n k : Nat} {v : Value} {xs : List Value} (h : w.ownsRow B e size v n xs) {cs : Array Value} {t : TypeId} {fz : Nat × Nat} (hk : w.heap[k]? = some (.cells cs t fz)) (ht : e ≠ t) : v.ownBlock ≠ some k := by
  intro hv
  obtain ⟨c, fz', h1⟩ := own_row_cells h k hv
  rw [hk] at h1
  injection h1 with h1
  injection h1 with _ h1
  exact ht h1.symm
theorem own_ne_map {w : World} {B e size n k m : Nat} {v : Value} {xs : List Value} {f : Int → Option Int} (h : w.ownsRow B e size v n xs) (hk : MapI w k f m) : v.ownBlock ≠ some k := by
  intro hv
  obtain ⟨c, fz', h1⟩ := own_row_cells h k hv
  exact hk.ne_cells h1 rfl
/-- a row of more cells than a block has is not that block -/
theorem own_ne_small {w : World} {B e size n k : Nat} {v : Value} {xs : List Value} (h : w.ownsRow B e size v n xs) {cs : Array Value} {t : TypeId} {fz : Nat × Nat} (hk : w.heap[k]? = some (.cells cs t fz)) (hs : cs.size < n * size) : v.ownBlock ≠ some k := by
  intro hv
  rcases h.2 with ⟨hv', _⟩ | ⟨g, cap, cur, hv', _, hh, hn, _, hcs, _⟩
  · subst hv'; simp [Value.ownBlock] at hv
  · subst hv'
    have : g = k := by simpa [Value.ownBlock] using hv
    subst this
    rw [hk] at hh
    injection hh with hh
    injection hh with h1 _
    subst h1
    have := Nat.mul_le_mul_right size hn
    omega
theorem own_lt {w : World} {B e size n : Nat} {v : Value} {xs : List Value} (h : w.ownsRow B e size v n xs) : ∀ k, v.ownBlock = some k → k < w.heap.size := by
  intro k hk
  obtain ⟨c, fz', h1⟩ := own_row_cells h k hk
  exact (Array.getElem?_eq_some_iff.1 h1).1
theorem own_grown {w w' : World} {B e size n : Nat} {v : Value} {xs : List Value} {row : Option Nat} (h : w.ownsRow B e size v n xs) (hg : w.grownBy w' row) (hne : ∀ k, row = some k → v.ownBlock ≠ some k) : w'.ownsRow B e size v n xs := by
  refine h.kept hg ?_
  cases row with
  | none => cases hv : v.ownBlock with
    | none => exact Or.inl rfl
    | some k => exact Or.inr (by simp)
  | some k => exact Or.inr (hne k rfl)
theorem own_shape {w : World} {B e size n : Nat} {v : Value} {xs : List Value} (h : w.ownsRow B e size v n xs) : ∃ a cap, v = .slice a n cap := by
  rcases h.2 with ⟨hv, h0⟩ | ⟨g, cap, cur, hv, _⟩
  · subst h0; exact ⟨none, 0, hv⟩
  · exact ⟨_, cap, hv⟩
namespace CkAt
variable {w w' : World} {B N : Nat} {q : Pl} {v pv : Value} {W : Wd} {c : Ck}
theorem ne_row (H : CkAt w B q v W c pv N) : pv.ownBlock ≠ some q.h := own_ne_cells H.row H.cells (by decide)
theorem h1 (H : CkAt w B q v W c pv N) : q.h ≠ q.m1 := H.of_.ne_cells H.cells
theorem h2 (H : CkAt w B q v W c pv N) : q.h ≠ q.m2 := H.blocks.ne_cells H.cells
theorem h3 (H : CkAt w B q v W c pv N) : q.h ≠ q.m3 := H.depth.ne_cells H.cells
theorem lt (H : CkAt w B q v W c pv N) : q.h < w.heap.size := (Array.getElem?_eq_some_iff.1 H.cells).1
theorem later (H : CkAt w B q v W c pv N) (hb : Below w.heap.size w w') : CkAt w' B q v W c pv N :=
  ⟨(hb.block _ H.lt).trans H.cells, owns_later H.row hb, H.of_.later hb, H.blocks.later hb, H.depth.later hb, H.bh, H.b1, H.b2, H.b3, H.ne12, H.ne13, H.ne23⟩
theorem mono (H : CkAt w B q v W c pv N) {M : Nat} (hM : N ≤ M) : CkAt w B q v W c pv M :=
  ⟨H.cells, H.row, H.of_.mono hM, H.blocks.mono hM, H.depth.mono hM, H.bh, H.b1, H.b2, H.b3, H.ne12, H.ne13, H.ne23⟩
/-- the struct alone is written -/
theorem write (H : CkAt w B q v W c pv N) (hg : w.grownBy w' (some q.h)) {most e : Int} (hc : w'.heap[q.h]? = some (.cells (ckC v pv W q most e) 86 (0, 0))) : CkAt w' B q v W { c with most := most, e := e } pv N :=
  ⟨hc, own_grown H.row hg (fun k hk => by injection hk with hk; subst hk; exact H.ne_row), H.of_.grown hg (by simpa using H.h1.symm), H.blocks.grown hg (by simpa using H.h2.symm), H.depth.grown hg (by simpa using H.h3.symm), H.bh, H.b1, H.b2, H.b3, H.ne12, H.ne13, H.ne23⟩
theorem wrong (H : CkAt w B q v W c pv N) (x : Int) : CkAt (wrongW w q.h c.e x) B q v W { c with e := wrongE c.e x } pv N :=
  H.write (wrongW_grown w q.h c.e x) (wrongW_heap H.cells x)
theorem store1 (H : CkAt w B q v W c pv N) {f : Int → Option Int} (hm : MapI w' q.m1 f (N + 1)) (hg : w.grownBy w' (some q.m1)) : CkAt w' B q v W { c with of_ := f } pv (N + 1) :=
  ⟨(hg.block _ H.lt (by simpa using H.h1)).trans H.cells, own_grown H.row hg (fun k hk => by injection hk with hk; subst hk; exact own_ne_map H.row H.of_), hm, (H.blocks.grown hg (by simpa using H.ne12.symm)).mono (by omega), (H.depth.grown hg (by simpa using H.ne13.symm)).mono (by omega), H.bh, H.b1, H.b2, H.b3, H.ne12, H.ne13, H.ne23⟩
theorem store2 (H : CkAt w B q v W c pv N) {f : Int → Option Int} (hm : MapI w' q.m2 f (N + 1)) (hg : w.grownBy w' (some q.m2)) : CkAt w' B q v W { c with blocks := f } pv (N + 1) :=
  ⟨(hg.block _ H.lt (by simpa using H.h2)).trans H.cells, own_grown H.row hg (fun k hk => by injection hk with hk; subst hk; exact own_ne_map H.row H.blocks), (H.of_.grown hg (by simpa using H.ne12)).mono (by omega), hm, (H.depth.grown hg (by simpa using H.ne23.symm)).mono (by omega), H.bh, H.b1, H.b2, H.b3, H.ne12, H.ne13, H.ne23⟩
theorem store3 (H : CkAt w B q v W c pv N) {f : Int → Option Int} (hm : MapI w' q.m3 f (N + 1)) (hg : w.grownBy w' (some q.m3)) : CkAt w' B q v W { c with depth := f } pv (N + 1) :=
  ⟨(hg.block _ H.lt (by simpa using H.h3)).trans H.cells, own_grown H.row hg (fun k hk => by injection hk with hk; subst hk; exact own_ne_map H.row H.depth), (H.of_.grown hg (by simpa using H.ne13)).mono (by omega), (H.blocks.grown hg (by simpa using H.ne23)).mono (by omega), hm, H.bh, H.b1, H.b2, H.b3, H.ne12, H.ne13, H.ne23⟩
/-- a part more -/
theorem push (H : CkAt w B q v W c pv N) {pv' : Value} {p : Pt} (hr : w'.ownsRow B 82 4 pv' (c.parts.length + 1) (ptsC c.parts ++ ptC p)) (hg : w.grownBy w' pv.ownBlock) :
    CkAt (w'.setCell ⟨q.h, 4, none⟩ pv') B q v W { c with parts := c.parts ++ [p] } pv' N := by
  have hc : w'.heap[q.h]? = some (.cells (ckC v pv W q c.most c.e) 86 (0, 0)) := (hg.block _ H.lt (fun e => H.ne_row e.symm)).trans H.cells
  have hs : w'.grownBy (w'.setCell ⟨q.h, 4, none⟩ pv') (some q.h) := ⟨rfl, rfl, rfl, by simp, fun k hk hne => Below.heap_setCell _ _ _ _ (by simpa using hne)⟩
  have g1 : MapI w' q.m1 c.of_ N := H.of_.grown hg (fun e => own_ne_map H.row H.of_ e.symm)
  have g2 : MapI w' q.m2 c.blocks N := H.blocks.grown hg (fun e => own_ne_map H.row H.blocks e.symm)
  have g3 : MapI w' q.m3 c.depth N := H.depth.grown hg (fun e => own_ne_map H.row H.depth e.symm)
  refine ⟨?_, ?_, g1.grown hs (by simpa using H.h1.symm), g2.grown hs (by simpa using H.h2.symm), g3.grown hs (by simpa using H.h3.symm), H.bh, H.b1, H.b2, H.b3, H.ne12, H.ne13, H.ne23⟩
  · rw [heap_setCell_same _ _ _ _ _ _ hc]; rfl
  · have hx : ptsC (c.parts ++ [p]) = ptsC c.parts ++ ptC p := by unfold ptsC; rw [List.flatMap_append]; simp
    show (w'.setCell _ _).ownsRow B 82 4 pv' (c.parts ++ [p]).length (ptsC (c.parts ++ [p]))
    rw [hx, List.length_append]
    exact own_grown hr hs (fun k hk => by injection hk with hk; subst hk; exact own_ne_cells hr hc (by decide))
/-- a row of another kind is appended to -/
theorem other (H : CkAt w B q v W c pv N) {B2 e size n : Nat} {gv : Value} {xs : List Value} (ho : w.ownsRow B2 e size gv n xs) (h1 : e ≠ 82) (h2 : e ≠ 86) (hg : w.grownBy w' gv.ownBlock) : CkAt w' B q v W c pv N :=
  ⟨(hg.block _ H.lt (fun e => own_ne_cells ho H.cells h2 e.symm)).trans H.cells,
   own_grown H.row hg (fun k hk he => by
    obtain ⟨c1, f1, g1⟩ := own_row_cells ho k hk
    obtain ⟨c2, f2, g2⟩ := own_row_cells H.row k he
    rw [g1] at g2; injection g2 with g2; injection g2 with _ g2; exact h1 g2),
   H.of_.grown hg (fun e => own_ne_map ho H.of_ e.symm), H.blocks.grown hg (fun e => own_ne_map ho H.blocks e.symm), H.depth.grown hg (fun e => own_ne_map ho H.depth e.symm), H.bh, H.b1, H.b2, H.b3, H.ne12, H.ne13, H.ne23⟩
end CkAt
end Go.Proofs.YtnajgpefmknmpaaDoor
