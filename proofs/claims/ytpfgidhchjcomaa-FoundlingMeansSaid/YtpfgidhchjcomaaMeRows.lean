/- Rows of nodes, and of strings, that the call has made. -/
import Derived.Test.YtpfgidhchjcomaaMePseudo
import Derived.Deep.AppendLies
import Derived.Deep.Upon
import Derived.Deep.CutBlock
import Derived.Deep.RegionHeld3
namespace Go.Proofs.Ytpfgidhchjcomaa
open Go.RowKit
set_option linter.unusedVariables false
theorem own_lt {w : World} {base : Nat} {e : TypeId} {size : Nat} {v : Value} {n : Nat} {xs : List Value} (h : w.ownsRow base e size v n xs) {g : Nat} (hg : v.ownBlock = some g) : base ≤ g ∧ g < w.heap.size := h.lt g hg
theorem own_grown {w w' : World} {base : Nat} {e : TypeId} {size : Nat} {v : Value} {n : Nat} {xs : List Value} (h : w.ownsRow base e size v n xs) (hk : ∀ g, v.ownBlock = some g → w'.heap[g]? = w.heap[g]?) : w'.ownsRow base e size v n xs := by
  refine ⟨h.1, ?_⟩
  rcases h.2 with h2 | ⟨g, cap, cur, hv, a, b, c⟩
  · exact Or.inl h2
  · exact Or.inr ⟨g, cap, cur, hv, a, (hk g (by rw [hv]; rfl)).trans b, c⟩
/-- a row of the call's own that reads as these nodes; their own rows lie in blocks of P, and not in this one -/
def NdCs (P : Nat → Prop) (d : Nat) (w : World) (v : Value) (l : List Nd) (cs : List Value) : Prop :=
  cs.length = l.length * 6 ∧ ∀ i n, l[i]? = some n → ∃ kv nv, (∀ j, j < 6 → cs[i * 6 + j]? = (ndC n kv nv)[j]?) ∧ NodesX (fun b => P b ∧ some b ≠ v.ownBlock) d w kv n.kids ∧ StrsX (fun b => P b ∧ some b ≠ v.ownBlock) w nv n.names ∧ NdOk n
theorem NdCs.nil (P : Nat → Prop) (d : Nat) (w : World) (v : Value) : NdCs P d w v [] [] := ⟨rfl, fun i n h => by simp at h⟩
theorem NdCs.keep {P : Nat → Prop} {d : Nat} {w w' : World} {v : Value} {l : List Nd} {cs : List Value} (h : NdCs P d w v l cs) (hb : ∀ k, k < w.heap.size → P k → some k ≠ v.ownBlock → w'.heap[k]? = w.heap[k]?) : NdCs P d w' v l cs :=
  ⟨h.1, fun i n hn => by
    obtain ⟨kv, nv, a, b, c, e⟩ := h.2 i n hn
    exact ⟨kv, nv, a, b.keep fun k hk hp => hb k hk hp.1 hp.2, c.keep fun k hk hp => hb k hk hp.1 hp.2, e⟩⟩
theorem NdCs.push {P : Nat → Prop} {d : Nat} {w w' : World} {v v' : Value} {l : List Nd} {cs : List Value} (h : NdCs P d w v l cs) {x : Nd} {kv nv : Value} (hk : NodesX (fun b => P b ∧ some b ≠ v.ownBlock) d w kv x.kids) (hs : StrsX (fun b => P b ∧ some b ≠ v.ownBlock) w nv x.names) (ho : NdOk x)
    (hg : w.grownBy w' v.ownBlock) (hc : v'.ownBlock = v.ownBlock ∨ ∃ g, v'.ownBlock = some g ∧ w.heap.size ≤ g) : NdCs P d w' v' (l ++ [x]) (cs ++ ndC x kv nv) := by
  have hlen : (ndC x kv nv).length = 6 := rfl
  obtain ⟨t1, t2⟩ := turn_push hg hc
  have tk : ∀ {d : Nat} {u : Value} {l : List Nd}, NodesX (fun b => P b ∧ some b ≠ v.ownBlock) d w u l → NodesX (fun b => P b ∧ some b ≠ v'.ownBlock) d w' u l := fun h => (show NodesX (fun b => (P b ∧ some b ≠ v.ownBlock) ∧ some b ≠ v'.ownBlock) _ _ _ _ from h.turn (fun b hb hp => ⟨hp, t2 b hb hp.2⟩)).keep (fun k hk hp => t1 k hk hp.1.2) |>.weak fun b hp => ⟨hp.1.1, hp.2⟩
  have ts : ∀ {u : Value} {l : List ByteArray}, StrsX (fun b => P b ∧ some b ≠ v.ownBlock) w u l → StrsX (fun b => P b ∧ some b ≠ v'.ownBlock) w' u l := fun h => (show StrsX (fun b => (P b ∧ some b ≠ v.ownBlock) ∧ some b ≠ v'.ownBlock) _ _ _ from h.turn (fun b hb hp => ⟨hp, t2 b hb hp.2⟩)).keep (fun k hk hp => t1 k hk hp.1.2) |>.weak fun b hp => ⟨hp.1.1, hp.2⟩
  refine ⟨by rw [List.length_append, List.length_append, h.1, hlen]; simp; omega, fun i n hn => ?_⟩
  by_cases hi : i < l.length
  · rw [List.getElem?_append_left hi] at hn
    obtain ⟨kv', nv', a, b, c, e⟩ := h.2 i n hn
    exact ⟨kv', nv', fun j hj => by rw [List.getElem?_append_left (by rw [h.1]; omega)]; exact a j hj, tk b, ts c, e⟩
  · have hil : i = l.length := by
      have := (List.getElem?_eq_some_iff.1 hn).1
      simp at this; omega
    subst hil
    simp at hn
    subst hn
    exact ⟨kv, nv, fun j hj => by rw [List.getElem?_append_right (by rw [h.1]; omega), h.1]; congr 1; omega, tk hk, ts hs, ho⟩
theorem NdCs.nodes {P Q : Nat → Prop} {d : Nat} {w : World} {base : Nat} {T : TypeId} {v : Value} {l : List Nd} {cs : List Value} (h : NdCs P d w v l cs) (ho : w.ownsRow base T 6 v l.length cs) (hQ : ∀ b, P b → Q b) (hb : ∀ g, v.ownBlock = some g → Q g) : NodesX Q (d + 1) w v l := by
  rcases ho.2 with ⟨rfl, h0⟩ | ⟨g, cap, cur, rfl, hB, hg, hn, hcm, hs, ht⟩
  · obtain rfl := List.length_eq_zero_iff.1 h0
    exact nodes_nil _ _ _
  · refine ⟨some ⟨g, 0, none⟩, cap, rfl, hn, hcm, by simp, fun i n hi => ?_⟩
    obtain ⟨kv, nv, a, b, c, e⟩ := h.2 i n hi
    have hil := (List.getElem?_eq_some_iff.1 hi).1
    refine ⟨g, 0, kv, nv, rfl, hb g rfl, fun j hj => ?_, b.weak fun k hk => hQ k hk.1, c.weak fun k hk => hQ k hk.1, e⟩
    rw [cell_of_row w g _ _ _ _ hg, ← a j hj, ← ht, List.getElem?_take, if_pos (by omega)]
    simp
/-- strings that the call has laid -/
theorem strs_own {Q : Nat → Prop} {w : World} {base : Nat} {T : TypeId} {v : Value} {l : List ByteArray} (ho : w.ownsRow base T 1 v l.length (l.map Value.string)) (hb : ∀ g, v.ownBlock = some g → Q g) (hz : ∀ s, s ∈ l → s.size ≤ maxLen) : StrsX Q w v l := by
  rcases ho.2 with ⟨rfl, h0⟩ | ⟨g, cap, cur, rfl, hB, hg, hn, hcm, hs, ht⟩
  · obtain rfl := List.length_eq_zero_iff.1 h0
    exact strs_nil _ _
  · refine ⟨some ⟨g, 0, none⟩, cap, rfl, hn, hcm, by simp, Or.inr ⟨g, 0, rfl, hb g rfl, fun j hj => ?_⟩, hz⟩
    rw [cell_of_row w g _ _ _ _ hg, ← ht, List.getElem?_take, if_pos (by simpa using hj)]
    simp
/-- append to a row of strings of the call's own -/
theorem run_append_strs {P : Program} (w : World) (base : Nat) (t ty e : TypeId) (i : TypeInfo) (z : Value) (bytes : Nat) (ht : P.underlying t = some (.slice e)) (hi : P.info? e = some i) (hz : i.zero = some z)
    (hsize : i.size = 1) (hby : i.bytes = bytes) (hzs : z.cells.size = 1) (v : Value) (n : Nat) (xs : List Value) (hown : w.ownsRow base e 1 v n xs) {x : Nat → Prop} (sv : Value) (l : List ByteArray) (hl : StrsX x w sv l)
    (h63 : n + l.length ≤ maxLen) (hbytes : (n + l.length) * bytes ≤ 140737488355328) (hbase : base ≤ w.heap.size) :
    ∃ v' w', (Builtin.append_ #[t, t] ty #[v, sv]).run P w = .ok v' w' ∧ w'.ownsRow base e 1 v' (n + l.length) (xs ++ l.map Value.string) ∧ w.grownBy w' v.ownBlock ∧ (v'.ownBlock = v.ownBlock ∨ ∃ g, v'.ownBlock = some g ∧ w.heap.size ≤ g) := by
  obtain ⟨a, cap, rfl, h1, h2, h3, h4, h5⟩ := hl
  cases a with
  | some a =>
    have hrow := h4.row
    obtain ⟨v', w', r1, r2, r3, -, r5⟩ := run_append_own_at (P := P) w base t ty e i z 1 bytes ht hi hz hsize hby hzs (by decide) v n xs hown a l.length cap (l.map Value.string) (by simp) (fun j u hu => by
      rcases hrow with h | ⟨b, o, ha, hc⟩
      · rw [h] at hu; simp at hu
      · injection ha with ha
        subst ha
        have hj := (List.getElem?_eq_some_iff.1 hu).1
        have : (⟨b, o, none⟩ : Addr).add j = ⟨b, o + j, none⟩ := by unfold Addr.add; split <;> simp_all
        rw [this, hc j hj, hu]) (fun u hu => by
      obtain ⟨s, -, rfl⟩ := List.mem_map.1 hu
      rfl) h63 hbytes hbase
    exact ⟨v', w', r1, r2, r3, r5.imp id fun h => ⟨_, h, Nat.le_refl _⟩⟩
  | none =>
    have hc := h3 rfl
    have hl0 : l.length = 0 := by omega
    obtain rfl := List.length_eq_zero_iff.1 hl0
    have hsrc : Src P i.size t (.slice none 0 cap) 0 [] w := Src.ofNil w ht cap
    have hrun : (Builtin.append_ #[t, t] ty #[v, .slice none 0 cap]).run P w = .ok v w := by
      rcases hown.2 with ⟨rfl, -⟩ | ⟨g, c, cur, rfl, -, -, hn, -⟩
      · exact run_append_nothing w t t ty e i ht hi none 0 0 (Nat.le_refl _) _ hsrc
      · exact run_append_nothing w t t ty e i ht hi _ n c hn _ hsrc
    refine ⟨v, w, hrun, by simpa using hown, ⟨rfl, rfl, rfl, Nat.le_refl _, fun _ _ _ => rfl⟩, Or.inl rfl⟩
/-- the same at an operation -/
theorem wp_append_strs {P : Program} (w : World) {o : Oper} {a : Act} {K : Act → World → Prop} {Q : Exit → Act → World → Prop} (s x : Operand) (t : TypeId)
    (ho : o.op = .call { callee := .builtin .append, args := #[s, x], argTypes := #[t, t] }) (base : Nat) (e : TypeId) (i : TypeInfo) (z : Value) (bytes : Nat) (ht : P.underlying t = some (.slice e)) (hi : P.info? e = some i) (hz : i.zero = some z)
    (hsize : i.size = 1) (hby : i.bytes = bytes) (hzs : z.cells.size = 1) (v : Value) (n : Nat) (xs : List Value) (hs : a.eval s = v) (hown : w.ownsRow base e 1 v n xs) {y : Nat → Prop} (sv : Value) (l : List ByteArray) (hx : a.eval x = sv) (hl : StrsX y w sv l)
    (h63 : n + l.length ≤ maxLen) (hbytes : (n + l.length) * bytes ≤ 140737488355328) (hbase : base ≤ w.heap.size)
    (h : ∀ v' w', w'.ownsRow base e 1 v' (n + l.length) (xs ++ l.map Value.string) → w.grownBy w' v.ownBlock → (v'.ownBlock = v.ownBlock ∨ ∃ g, v'.ownBlock = some g ∧ w.heap.size ≤ g) → K (a.put o.dst v') w') : o.wp P a w K Q := by
  obtain ⟨v', w', hr, h2, h3, h4⟩ := run_append_strs (P := P) w base t o.type e i z bytes ht hi hz hsize hby hzs v n xs hown sv l hl h63 hbytes hbase
  unfold Oper.wp execOp
  simp only [ho, resolve, invoke, builtin, Sem.run_bind, Sem.run_pure, Result.andThen_ok, List.map_toArray, List.map_cons, List.map_nil, hs, hx, hr]
  exact h v' w' h2 h3 h4
theorem step_append_strs {P : Program} (w : World) {ops : Array Oper} {o : Oper} {a : Act} {K : Act → World → Prop} {Q : Exit → Act → World → Prop} {E : Prop} (hgd : o.guard = none) (s x : Operand) (t : TypeId)
    (ho : o.op = .call { callee := .builtin .append, args := #[s, x], argTypes := #[t, t] }) (base : Nat) (e : TypeId) (i : TypeInfo) (z : Value) (bytes : Nat) (ht : P.underlying t = some (.slice e)) (hi : P.info? e = some i) (hz : i.zero = some z)
    (hsize : i.size = 1) (hby : i.bytes = bytes) (hzs : z.cells.size = 1) (v : Value) (n : Nat) (xs : List Value) (hs : a.eval s = v) (hown : w.ownsRow base e 1 v n xs) {y : Nat → Prop} (sv : Value) (l : List ByteArray) (hx : a.eval x = sv) (hl : StrsX y w sv l)
    (h63 : n + l.length ≤ maxLen) (hbytes : (n + l.length) * bytes ≤ 140737488355328) (hbase : base ≤ w.heap.size)
    (h : ∀ v' w', w'.ownsRow base e 1 v' (n + l.length) (xs ++ l.map Value.string) → w.grownBy w' v.ownBlock → (v'.ownBlock = v.ownBlock ∨ ∃ g, v'.ownBlock = some g ∧ w.heap.size ≤ g) → K (a.put o.dst v') w') :
    if Region.wanted o (yielded ops a.tmps) = true then Oper.wp P o a w K Q else E := by
  have hw : Region.wanted o (yielded ops a.tmps) = true := by simp [Region.wanted, hgd]
  rw [if_pos hw]
  exact wp_append_strs w s x t ho base e i z bytes ht hi hz hsize hby hzs v n xs hs hown sv l hx hl h63 hbytes hbase h
theorem info_parts {P : Program} {t : TypeId} {z : Value} {m b : Nat} (h : (P.info? t).map (fun i => (i.zero, i.size, i.bytes)) = some (some z, m, b)) : ∃ i, P.info? t = some i ∧ i.zero = some z ∧ i.size = m ∧ i.bytes = b := by
  cases hp : P.info? t with
  | none => rw [hp] at h; cases h
  | some i =>
    rw [hp] at h
    simp at h
    exact ⟨i, rfl, h.1, h.2.1, h.2.2⟩
/-- append to a full row: what stood there stays; what comes lies there, or anew -/
theorem run_append_copy {P : Program} (w : World) (t ty e : TypeId) (i : TypeInfo) (z : Value) (bytes : Nat) (ht : P.underlying t = some (.slice e)) (hi : P.info? e = some i) (hz : i.zero = some z)
    (hsize : i.size = 1) (hby : i.bytes = bytes) (hzs : z.cells.size = 1) {y : Nat → Prop} (b0 : Addr) (l0 : List ByteArray) (h0 : StrsX y w (.slice (some b0) l0.length l0.length) l0) {x : Nat → Prop} (sv : Value) (l : List ByteArray) (hl : StrsX x w sv l)
    (h63 : l0.length + l.length ≤ maxLen) (hbytes : (l0.length + l.length) * bytes ≤ 140737488355328) :
    ∃ a' c' w', (Builtin.append_ #[t, t] ty #[.slice (some b0) l0.length l0.length, sv]).run P w = .ok (.slice a' (l0.length + l.length) c') w' ∧ StrsX (fun b => y b ∨ w.heap.size ≤ b) w' (.slice a' (l0.length + l.length) c') (l0 ++ l) ∧ Below w.heap.size w w' := by
  obtain ⟨a, cap, rfl, h1, h2, h3, h4, h5⟩ := id hl
  by_cases hz0 : l.length = 0
  · obtain rfl := List.length_eq_zero_iff.1 hz0
    have hsrc : Src P i.size t (.slice a 0 cap) 0 [] w := by
      cases a with
      | none => exact Src.ofNil w ht cap
      | some a => exact Src.ofSlice w ht a 0 cap [] (by simp) (fun j u h => by simp at h) (fun u h => by cases h)
    refine ⟨some b0, l0.length, w, run_append_nothing w t t ty e i ht hi _ _ _ (Nat.le_refl _) _ hsrc, ?_, Below.refl _ _⟩
    rw [List.append_nil]
    exact h0.weak fun b hb => Or.inl hb
  · cases a with
    | none => exact absurd (h3 rfl) (by omega)
    | some a =>
      have rd : ∀ {y : Nat → Prop} {a : Addr} {l : List ByteArray}, RowX y w (some a) (l.map Value.string) → ∀ j u, (l.map Value.string)[j]? = some u → w.cell? (a.add j) = some u := fun h4 j u hu => by
        rcases h4.row with h | ⟨b, o, ha, hc⟩
        · rw [h] at hu; simp at hu
        · injection ha with ha
          subst ha
          have hj := (List.getElem?_eq_some_iff.1 hu).1
          have : (⟨b, o, none⟩ : Addr).add j = ⟨b, o + j, none⟩ := by unfold Addr.add; split <;> simp_all
          rw [this, hc j hj, hu]
      obtain ⟨a0', c0', hv0, -, -, -, h40, h50⟩ := h0
      injection hv0 with e1 e2 e3
      subst e1
      have hr := run_append_grow (P := P) w t ty e i z ht hi hz b0 l0.length l0.length (l0.map Value.string) (by rw [hsize]; simp) (rd h40) a l.length cap (l.map Value.string) (by rw [hsize]; simp) (rd h4) (by omega) (by unfold maxLen at h63; omega) (by rw [hby]; exact growslice_fits (by omega) hbytes)
      have hge := grownCap_ge w (l0.length + l.length) l0.length e
      have hcm : grownCap w (l0.length + l.length) l0.length e ≤ maxLen := grownCap_le_maxLen w (l0.length + l.length) l0.length e h63
      refine ⟨_, _, _, hr, ⟨_, _, by rw [List.length_append], by rw [List.length_append]; exact hge, hcm, by simp, Or.inr ⟨w.heap.size, 0, rfl, Or.inr (Nat.le_refl _), fun j hj => ?_⟩, fun s hs => ?_⟩, ((Below.refl _ _).drew).alloc (Nat.le_refl _) _⟩
      · have := cell_of_row (w.drew.alloc (.cells ((l0.map Value.string).toArray ++ (l.map Value.string).toArray ++ Builtin.zeroCells z.cells (grownCap w (l0.length + l.length) l0.length e - (l0.length + l.length))) e)) w.heap.size (0 + j) _ _ _ (heap_alloc_new w.drew _)
        rw [this, List.map_append]
        rw [List.map_append] at hj
        rw [Nat.zero_add, Array.getElem?_append_left (by simpa using hj)]
        simp
      · rcases List.mem_append.1 hs with h | h
        · exact h50 s h
        · exact h5 s h
theorem step_append_copy {P : Program} (w : World) {ops : Array Oper} {o : Oper} {a : Act} {K : Act → World → Prop} {Q : Exit → Act → World → Prop} {E : Prop} (hgd : o.guard = none) (s x : Operand) (t : TypeId)
    (ho : o.op = .call { callee := .builtin .append, args := #[s, x], argTypes := #[t, t] }) (e : TypeId) (i : TypeInfo) (z : Value) (bytes : Nat) (ht : P.underlying t = some (.slice e)) (hi : P.info? e = some i) (hz : i.zero = some z)
    (hsize : i.size = 1) (hby : i.bytes = bytes) (hzs : z.cells.size = 1) {y : Nat → Prop} (b0 : Addr) (n0 : Nat) (l0 : List ByteArray) (hn0 : l0.length = n0) (hs : a.eval s = .slice (some b0) n0 n0) (h0 : StrsX y w (.slice (some b0) n0 n0) l0) {yx : Nat → Prop} (sv : Value) (l : List ByteArray) (hx : a.eval x = sv) (hl : StrsX yx w sv l)
    (h63 : n0 + l.length ≤ maxLen) (hbytes : (n0 + l.length) * bytes ≤ 140737488355328) (lo : Nat) (hlo : lo ≤ w.heap.size)
    (h : ∀ a' c' w', StrsX (fun b => y b ∨ lo ≤ b) w' (.slice a' (n0 + l.length) c') (l0 ++ l) → Below w.heap.size w w' → K (a.put o.dst (.slice a' (n0 + l.length) c')) w') :
    if Region.wanted o (yielded ops a.tmps) = true then Oper.wp P o a w K Q else E := by
  subst hn0
  have hw : Region.wanted o (yielded ops a.tmps) = true := by simp [Region.wanted, hgd]
  rw [if_pos hw]
  obtain ⟨a', c', w', hr, h2, h3⟩ := run_append_copy (P := P) w t o.type e i z bytes ht hi hz hsize hby hzs b0 l0 h0 sv l hl h63 hbytes
  unfold Oper.wp execOp
  simp only [ho, resolve, invoke, builtin, Sem.run_bind, Sem.run_pure, Result.andThen_ok, List.map_toArray, List.map_cons, List.map_nil, hs, hx, hr]
  exact h a' c' w' (h2.weak fun b hb => hb.imp id (Nat.le_trans hlo)) h3
theorem strs_empty (y : Nat → Prop) (w : World) (b0 : Addr) : StrsX y w (.slice (some b0) 0 0) [] := ⟨some b0, 0, rfl, Nat.le_refl _, by unfold maxLen; omega, fun _ => rfl, Or.inl rfl, fun s hs => by cases hs⟩
theorem step_append_copy0 {P : Program} (w : World) {ops : Array Oper} {o : Oper} {a : Act} {K : Act → World → Prop} {Q : Exit → Act → World → Prop} {E : Prop} (hgd : o.guard = none) (s x : Operand) (t : TypeId)
    (ho : o.op = .call { callee := .builtin .append, args := #[s, x], argTypes := #[t, t] }) (e : TypeId) (i : TypeInfo) (z : Value) (bytes : Nat) (ht : P.underlying t = some (.slice e)) (hi : P.info? e = some i) (hz : i.zero = some z)
    (hsize : i.size = 1) (hby : i.bytes = bytes) (hzs : z.cells.size = 1) (b0 : Addr) (hs : a.eval s = .slice (some b0) 0 0) {yx : Nat → Prop} (sv : Value) (l : List ByteArray) (hx : a.eval x = sv) (hl : StrsX yx w sv l)
    (h63 : l.length ≤ maxLen) (hbytes : l.length * bytes ≤ 140737488355328) (lo : Nat) (hlo : lo ≤ w.heap.size)
    (h : ∀ a' c' w', StrsX (fun b => lo ≤ b) w' (.slice a' l.length c') l → Below w.heap.size w w' → K (a.put o.dst (.slice a' l.length c')) w') :
    if Region.wanted o (yielded ops a.tmps) = true then Oper.wp P o a w K Q else E :=
  step_append_copy (y := fun _ => False) w hgd s x t ho e i z bytes ht hi hz hsize hby hzs b0 0 [] rfl hs (strs_empty _ _ _) sv l hx hl (by omega) (by rw [Nat.zero_add]; exact hbytes) lo hlo fun a' c' w' h1 h2 => by
    rw [Nat.zero_add] at h1 ⊢
    exact h a' c' w' (h1.weak fun b hb => hb.resolve_left id) h2
theorem nd_push {P : Nat → Prop} {d : Nat} {wr WA wF : World} {v : Value} {L : List Nd} {cs : List Value} {x : Nd} {kv nv : Value} {gg n cap : Nat} (H0 : NdCs P d wr v L cs) (hv : ∀ g, v.ownBlock = some g → g < wr.heap.size) (hb : Below wr.heap.size wr WA)
    (hk : NodesX (fun b => wr.heap.size ≤ b) d WA kv x.kids) (hs : StrsX (fun b => wr.heap.size ≤ b) WA nv x.names) (ho : NdOk x) (hP : ∀ b, wr.heap.size ≤ b → P b)
    (hg : WA.grownBy wF v.ownBlock) (hat : v.ownBlock = some gg ∨ gg = WA.heap.size) : NdCs P d wF (.slice (some ⟨gg, 0, none⟩) n cap) (L ++ [x]) (cs ++ ndC x kv nv) := by
  have hne : ∀ b, wr.heap.size ≤ b → some b ≠ v.ownBlock := fun b hb e => by have := hv b e.symm; omega
  refine (H0.keep (w' := WA) fun k hk _ _ => hb.block k hk).push (hk.weak fun b hb => ⟨hP b hb, hne b hb⟩) (hs.weak fun b hb => ⟨hP b hb, hne b hb⟩) ho hg ?_
  rcases hat with h | h
  · exact Or.inl h.symm
  · exact Or.inr ⟨gg, rfl, by omega⟩
def smT : Nat → List Nd → Prop
  | 0, _ => True
  | d + 1, l => l.length ≤ 200 ∧ ∀ n, n ∈ l → n.names.length ≤ 9 ∧ n.name.size ≤ 5000 ∧ smT d n.kids
theorem strInfo : (Try.prog.info? 9).map (fun i => (i.zero, i.size, i.bytes)) = some (some (.string ⟨#[]⟩), 1, 16) := by kernel_rfl
theorem ndInfo : (Try.prog.info? 30).map (fun i => (i.zero, i.size, i.bytes)) = some (some (.agg #[.int .i64 0, .string ⟨#[]⟩, .int .i64 0, .slice none 0 0, .slice none 0 0, .int .i64 0]), 6, 88) := by kernel_rfl
theorem rndInfo : (Try.prog.info? 43).map (fun i => (i.zero, i.size, i.bytes)) = some (some (.agg #[.int .i64 0, .string ⟨#[]⟩, .int .i64 0, .slice none 0 0, .slice none 0 0, .int .i64 0]), 6, 88) := by kernel_rfl
end Go.Proofs.Ytpfgidhchjcomaa
