/- Append to a row of the call's own: where the new row lies. -/
import Derived.Test.YtnajgpefmknmpaaDoorCodeLaid
import Derived.Deep.Upon
import Derived.Deep.AppendSrc
namespace Go.Proofs.YtnajgpefmknmpaaDoor
open Go.RowKit Go.Deep
set_option linter.unusedVariables false
theorem add_plain' (g j : Nat) : (⟨g, 0, none⟩ : Addr).add j = ⟨g, j, none⟩ := by unfold Addr.add; split <;> simp_all
/-- it lies where it lay, or anew -/
def RowCase (w : World) (v v' : Value) : Prop := v'.ownBlock = v.ownBlock ∨ ∃ g, v'.ownBlock = some g ∧ w.heap.size ≤ g
theorem run_append_put {P : Program} (w : World) (base : Nat) (t ty e : TypeId) (i : TypeInfo) (z : Value) (size bytes : Nat) (ht : P.underlying t = some (.slice e)) (hi : P.info? e = some i) (hz : i.zero = some z)
    (hsize : i.size = size) (hby : i.bytes = bytes) (hzs : z.cells.size = size) (hsz : 0 < size) (v : Value) (n : Nat) (xs : List Value) (hown : w.ownsRow base e size v n xs) (a : Addr) (m c : Nat) (hm : 0 < m) (news : List Value) (hl : news.length = m * size) (hnews : ∀ j u, news[j]? = some u → w.cell? (a.add j) = some u) (h1 : ∀ u ∈ news, u.oneCell' = true)
    (h63 : n + m ≤ maxLen) (hbytes : (n + m) * bytes ≤ 140737488355328) (hbase : base ≤ w.heap.size) :
    ∃ v' w', (Builtin.append_ #[t, t] ty #[v, .slice (some a) m c]).run P w = .ok v' w' ∧ w'.ownsRow base e size v' (n + m) (xs ++ news) ∧ w.grownBy w' v.ownBlock ∧ RowCase w v v' := by
  obtain ⟨v', w', hr, ho, hg, -⟩ := run_append_own (P := P) (w := w) base t ty e i z size bytes ht hi hz hsize hby hzs hsz v n xs hown a m c news hl hnews h1 h63 hbytes hbase
  refine ⟨v', w', hr, ho, hg, ?_⟩
  have src : Src P size t (.slice (some a) m c) m news w := Src.ofSlice w ht a m c news hl hnews h1
  rcases hown.2 with ⟨rfl, rfl⟩ | ⟨g, cap, cur, rfl, hbg, hgc, hnc, hcm, hcs, htake⟩
  · have hx : xs = [] := List.eq_nil_of_length_eq_zero (by simpa using hown.1)
    have hc : Came w size none 0 0 0 0 [] := ⟨Nat.le_refl _, fun h => absurd h (Nat.lt_irrefl 0), fun h => absurd h (Nat.lt_irrefl 0), by simp, fun j u h => by simp at h, fun j h => by simp at h⟩
    obtain ⟨v2, w2, hr2, hu⟩ := run_append_upon (P := P) hc t t ty i z bytes ht hi hz hsize hby hzs (Upon.start (e := e) hc) (.slice (some a) m c) m news src (by omega) (by simpa using hbytes)
    rw [hr] at hr2
    injection hr2 with e1 e2
    subst e1 e2
    rcases hu.val with ⟨h0, -, -⟩ | ⟨-, g, c', hv, hat⟩
    · omega
    · exact Or.inr ⟨g, by rw [hv]; rfl, hat.new⟩
  · have hlt := (Array.getElem?_eq_some_iff.1 hgc).1
    have hcell : ∀ j, w.cell? ⟨g, j, none⟩ = cur[j]? := fun j => cell_of_row w g j _ _ _ hgc
    have hxl : xs.length = n * size := hown.1
    have hc : Came w size (some ⟨g, 0, none⟩) g 0 n cap xs := by
      refine ⟨hnc, fun _ => rfl, fun _ => hlt, hxl, fun j u hj => ?_, fun j hj => ?_⟩
      · have := hown.cells (g := g) rfl j u hj
        rw [Nat.zero_add]
        rw [add_plain'] at this
        exact this
      · have hjs : 0 + n * size + j < cur.size := by
          rw [hcs]
          rw [Nat.sub_mul] at hj
          have : n * size ≤ cap * size := Nat.mul_le_mul_right _ hnc
          omega
        refine ⟨by rw [hcell, Array.getElem?_eq_getElem hjs]; rfl, ?_⟩
        unfold World.frozen?
        rw [hgc]; simp
    obtain ⟨v2, w2, hr2, hu⟩ := run_append_upon (P := P) hc t t ty i z bytes ht hi hz hsize hby hzs (Upon.start (e := e) hc) (.slice (some a) m c) m news src (by omega) (by simpa using hbytes)
    rw [hr] at hr2
    injection hr2 with e1 e2
    subst e1 e2
    rcases hu.val with ⟨h0, hv, -⟩ | ⟨h0, g', c', hv, hat⟩
    · exact Or.inl (by rw [hv]; rfl)
    · exact Or.inr ⟨g', by rw [hv]; rfl, hat.new⟩
theorem wpList_append_put {P : Program} (w : World) {ops : Array Oper} {rest : List Oper} {o : Oper} {a : Act} {Q : Exit → Act → World → Prop} (hgd : o.guard = none) (s x : Operand) (t : TypeId)
    (ho : o.op = .call { callee := .builtin .append, args := #[s, x], argTypes := #[t, t] }) (base : Nat) (e : TypeId) (i : TypeInfo) (z : Value) (size bytes : Nat) (ht : P.underlying t = some (.slice e)) (hi : P.info? e = some i) (hz : i.zero = some z)
    (hsize : i.size = size) (hby : i.bytes = bytes) (hzs : z.cells.size = size) (hsz : 0 < size) (v : Value) (n : Nat) (xs : List Value) (hs : a.eval s = v) (hown : w.ownsRow base e size v n xs) (ad : Addr) (m c : Nat) (hm : 0 < m) (news : List Value) (hx : a.eval x = .slice (some ad) m c) (hl : news.length = m * size)
    (hnews : ∀ j u, news[j]? = some u → w.cell? (ad.add j) = some u) (h1 : ∀ u ∈ news, u.oneCell' = true) (h63 : n + m ≤ maxLen) (hbytes : (n + m) * bytes ≤ 140737488355328) (hbase : base ≤ w.heap.size)
    (hK : ∀ v' w', w'.ownsRow base e size v' (n + m) (xs ++ news) → w.grownBy w' v.ownBlock → RowCase w v v' → wpList P ops Q rest (a.put o.dst v') w') : wpList P ops Q (o :: rest) a w := by
  refine wpList_plain hgd fun K hK' => ?_
  obtain ⟨v', w', hrun, r1, r2, r3⟩ := run_append_put (P := P) w base t o.type e i z size bytes ht hi hz hsize hby hzs hsz v n xs hown ad m c hm news hl hnews h1 h63 hbytes hbase
  unfold Oper.wp
  simp [execOp, ho, resolve, invoke, builtin, hs, hx, hrun, Result.andThen]
  exact hK' _ _ (hK v' w' r1 r2 r3)
/-- a place that waits -/
structure Pc where
  at_ : Int
  deep : Int
def pcC (g : Pc) : List Value := [.int .i64 g.at_, .int .i64 g.deep]
def pcsC (l : List Pc) : List Value := l.flatMap pcC
theorem pcsC_length : ∀ l : List Pc, (pcsC l).length = l.length * 2
  | [] => rfl
  | x :: L => by unfold pcsC; rw [List.flatMap_cons, List.length_append]; have := pcsC_length L; unfold pcsC at this; rw [this, List.length_cons]; show 2 + _ = _; omega
theorem pcsC_at : ∀ (l : List Pc) (k : Nat) (h : k < l.length), (pcsC l)[k * 2]? = some (.int .i64 (l[k]).at_) ∧ (pcsC l)[k * 2 + 1]? = some (.int .i64 (l[k]).deep)
  | x :: L, 0, _ => ⟨rfl, rfl⟩
  | x :: L, k + 1, h => by
    have hk : k < L.length := by simpa using h
    obtain ⟨h0, h1⟩ := pcsC_at L k hk
    have e : pcsC (x :: L) = pcC x ++ pcsC L := rfl
    have hl : (pcC x).length = 2 := rfl
    rw [e]
    refine ⟨?_, ?_⟩
    · rw [List.getElem?_append_right (by omega), hl, show (k + 1) * 2 - 2 = k * 2 by omega]; simpa using h0
    · rw [List.getElem?_append_right (by omega), hl, show (k + 1) * 2 + 1 - 2 = k * 2 + 1 by omega]; simpa using h1
theorem placeInfo : (Tryd.prog.info? 53).map (fun i => (i.zero, i.size, i.bytes)) = some (some (.agg #[.int .i64 0, .int .i64 0]), 2, 16) := by kernel_rfl
/-- a row of places of the call's own -/
def OwnsP (w : World) (B : Nat) (v : Value) (ps : List Pc) : Prop := w.ownsRow B 53 2 v ps.length (pcsC ps)
theorem ownsP_push {w : World} {B : Nat} {v : Value} {ps : List Pc} {x y : Int} (h : w.ownsRow B 53 2 v (ps.length + 1) (pcsC ps ++ [.int .i64 x, .int .i64 y])) : OwnsP w B v (ps ++ [⟨x, y⟩]) := by
  unfold OwnsP
  have e : pcsC (ps ++ [⟨x, y⟩]) = pcsC ps ++ [.int .i64 x, .int .i64 y] := by unfold pcsC; rw [List.flatMap_append]; simp [pcC]
  rw [e, List.length_append]
  exact h
theorem pown_pop {w : World} {B g m cap : Nat} {ws : List Pc} {x : Pc} (h : OwnsP w B (.slice (some ⟨g, 0, none⟩) (m + 1) cap) (ws ++ [x])) (hm : ws.length = m) : OwnsP w B (.slice (some ⟨g, 0, none⟩) m cap) ws := by
  rcases h.2 with ⟨hv, -⟩ | ⟨g', cap', cur, hv, hB, hg, hn, hcm, hs, ht⟩
  · cases hv
  · injection hv with h1 h2 h3
    injection h1 with h1
    injection h1 with h1
    subst h1 h3 hm
    have hl := pcsC_length ws
    refine ⟨hl, .inr ⟨g, cap, cur, rfl, hB, hg, by rw [List.length_append] at hn; simp at hn; omega, hcm, hs, ?_⟩⟩
    have e : pcsC (ws ++ [x]) = pcsC ws ++ pcC x := by unfold pcsC; rw [List.flatMap_append]; simp
    rw [e, List.length_append, List.length_singleton] at ht
    have h2 : (pcsC ws ++ pcC x).take (ws.length * 2) = pcsC ws := by rw [← hl]; exact List.take_left
    have := congrArg (List.take (ws.length * 2)) ht
    rw [h2, List.take_take, Nat.min_eq_left (by omega)] at this
    exact this
theorem sizePlace (W : World) : (sizeOf (Tryd.prog.elem 54)).run Tryd.prog W = .ok 2 W := by kernel_rfl
theorem pslice_pop (g m cap : Nat) (hc : m + 1 ≤ cap) (W : World) : (Instr.slice 54 (.slice (some ⟨g, 0, none⟩) (m + 1) cap) none (some (.int .i64 (m : Int))) none).run Tryd.prog W = .ok (.slice (some ⟨g, 0, none⟩) m cap) W := by
  have := run_slice_h (P := Tryd.prog) (w := W) 54 (some ⟨g, 0, none⟩) (m + 1) cap (by kernel_rfl) .i64 (m : Int) (by omega) (by omega)
  rw [this, sizePlace]
  simp only [Result.andThen, Int.toNat_natCast, sliced]
  rw [if_neg (by omega)]
  simp [Addr.add]
end Go.Proofs.YtnajgpefmknmpaaDoor
