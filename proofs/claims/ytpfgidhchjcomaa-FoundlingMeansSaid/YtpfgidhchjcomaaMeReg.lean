/- The region in which the law resolves with a field more and a global more: whatever order its operations come in. (Printed by gen_r36.py.) -/
import Derived.Test.YtpfgidhchjcomaaMeLawQ
namespace Go.Proofs.Ytpfgidhchjcomaa
open Go.RowKit
set_option linter.unusedVariables false
def o36_0 : Oper := { dst := some 141, op := Op.load 32 (Operand.tmp 11), type := 32, pos := "top07.go:51", after := #[], guard := none }
def o36_1 : Oper := { dst := some 142, op := Op.buildSlice 22 0 #[], type := 22, pos := "top07.go:51", after := #[], guard := none }
def o36_2 : Oper := { dst := some 143, op := Op.move (Operand.tmp 9), type := 22, pos := "top07.go:51", after := #[], guard := none }
def o36_3 : Oper := { dst := some 144, op := Op.call { callee := Callee.builtin Builtin.append, args := #[Operand.tmp 142, Operand.tmp 143], argTypes := #[22, 22] }, type := 22, pos := "top07.go:51", after := #[{ on := 1, ground := Ground.data }, { on := 2, ground := Ground.data }], guard := none }
def o36_4 : Oper := { dst := some 145, op := Op.move (Operand.tmp 15), type := 9, pos := "top07.go:51", after := #[], guard := none }
def o36_5 : Oper := { dst := some 146, op := Op.buildSlice 22 1 #[(0, Operand.tmp 145)], type := 22, pos := "top07.go:51", after := #[{ on := 4, ground := Ground.data }], guard := none }
def o36_6 : Oper := { dst := some 147, op := Op.call { callee := Callee.builtin Builtin.append, args := #[Operand.tmp 144, Operand.tmp 146], argTypes := #[22, 22] }, type := 22, pos := "top07.go:51", after := #[{ on := 3, ground := Ground.data }, { on := 5, ground := Ground.data }, { on := 3, ground := Ground.chain }], guard := none }
def o36_7 : Oper := { dst := some 148, op := Op.move (Operand.tmp 15), type := 9, pos := "top07.go:51", after := #[], guard := none }
def o36_8 : Oper := { dst := some 149, op := Op.buildSlice 22 1 #[(0, Operand.tmp 148)], type := 22, pos := "top07.go:51", after := #[{ on := 7, ground := Ground.data }], guard := none }
def o36_9 : Oper := { dst := some 150, op := Op.move (Operand.tmp 10), type := 22, pos := "top07.go:51", after := #[], guard := none }
def o36_10 : Oper := { dst := some 151, op := Op.call { callee := Callee.builtin Builtin.append, args := #[Operand.tmp 149, Operand.tmp 150], argTypes := #[22, 22] }, type := 22, pos := "top07.go:51", after := #[{ on := 8, ground := Ground.data }, { on := 9, ground := Ground.data }, { on := 6, ground := Ground.chain }], guard := none }
def o36_11 : Oper := { dst := some 152, op := Op.call { callee := Callee.value (Operand.func 4), args := #[Operand.tmp 141, Operand.tmp 147, Operand.tmp 151], argTypes := #[32, 22, 22] }, type := 37, pos := "top07.go:51", after := #[{ on := 0, ground := Ground.data }, { on := 6, ground := Ground.data }, { on := 10, ground := Ground.data }, { on := 10, ground := Ground.chain }], guard := none }
def o36_12 : Oper := { dst := some 140, op := Op.move (Operand.tmp 152), type := 37, pos := "top07.go:51", after := #[{ on := 11, ground := Ground.data }], guard := none }
def o36_13 : Oper := { dst := some 153, op := Op.extract (Operand.tmp 140) 0, type := 35, pos := "top07.go:51", after := #[{ on := 12, ground := Ground.data }], guard := none }
def o36_14 : Oper := { dst := some 154, op := Op.extract (Operand.tmp 140) 1, type := 3, pos := "top07.go:51", after := #[{ on := 12, ground := Ground.data }, { on := 17, ground := Ground.gcOnly Departure.lateStores }], guard := none }
def o36_15 : Oper := { dst := some 155, op := Op.extract (Operand.tmp 140) 2, type := 36, pos := "top07.go:51", after := #[{ on := 12, ground := Ground.data }, { on := 18, ground := Ground.gcOnly Departure.lateStores }], guard := none }
def o36_16 : Oper := { dst := some 23, op := Op.alloc 35, type := 0, pos := "top07.go:51", after := #[], guard := none }
def o36_17 : Oper := { dst := none, op := Op.store 35 (Operand.tmp 23) (Operand.tmp 153), type := 0, pos := "top07.go:51", after := #[{ on := 16, ground := Ground.data }, { on := 13, ground := Ground.data }, { on := 11, ground := Ground.chain }, { on := 0, ground := Ground.phase }, { on := 1, ground := Ground.phase }, { on := 2, ground := Ground.phase }, { on := 3, ground := Ground.phase }, { on := 4, ground := Ground.phase }, { on := 5, ground := Ground.phase }, { on := 6, ground := Ground.phase }, { on := 7, ground := Ground.phase }, { on := 8, ground := Ground.phase }, { on := 9, ground := Ground.phase }, { on := 10, ground := Ground.phase }, { on := 11, ground := Ground.phase }, { on := 12, ground := Ground.phase }, { on := 13, ground := Ground.phase }, { on := 14, ground := Ground.textOnly Departure.lateStores }, { on := 15, ground := Ground.textOnly Departure.lateStores }, { on := 16, ground := Ground.phase }], guard := none }
def o36_18 : Oper := { dst := some 24, op := Op.assign (Operand.tmp 154), type := 3, pos := "top07.go:51", after := #[{ on := 14, ground := Ground.data }, { on := 17, ground := Ground.chain }, { on := 0, ground := Ground.phase }, { on := 1, ground := Ground.phase }, { on := 2, ground := Ground.phase }, { on := 3, ground := Ground.phase }, { on := 4, ground := Ground.phase }, { on := 5, ground := Ground.phase }, { on := 6, ground := Ground.phase }, { on := 7, ground := Ground.phase }, { on := 8, ground := Ground.phase }, { on := 9, ground := Ground.phase }, { on := 10, ground := Ground.phase }, { on := 11, ground := Ground.phase }, { on := 12, ground := Ground.phase }, { on := 13, ground := Ground.phase }, { on := 14, ground := Ground.phase }, { on := 15, ground := Ground.textOnly Departure.lateStores }, { on := 16, ground := Ground.phase }, { on := 17, ground := Ground.phase }], guard := none }
def o36_19 : Oper := { dst := some 14, op := Op.assign (Operand.tmp 155), type := 36, pos := "top07.go:51", after := #[{ on := 15, ground := Ground.data }, { on := 18, ground := Ground.chain }, { on := 0, ground := Ground.phase }, { on := 1, ground := Ground.phase }, { on := 2, ground := Ground.phase }, { on := 3, ground := Ground.phase }, { on := 4, ground := Ground.phase }, { on := 5, ground := Ground.phase }, { on := 6, ground := Ground.phase }, { on := 7, ground := Ground.phase }, { on := 8, ground := Ground.phase }, { on := 9, ground := Ground.phase }, { on := 10, ground := Ground.phase }, { on := 11, ground := Ground.phase }, { on := 12, ground := Ground.phase }, { on := 13, ground := Ground.phase }, { on := 14, ground := Ground.phase }, { on := 15, ground := Ground.phase }, { on := 16, ground := Ground.phase }, { on := 17, ground := Ground.phase }, { on := 18, ground := Ground.phase }], guard := none }
def ops36 : Array Oper := #[{ dst := some 141, op := Op.load 32 (Operand.tmp 11), type := 32, pos := "top07.go:51", after := #[], guard := none }, { dst := some 142, op := Op.buildSlice 22 0 #[], type := 22, pos := "top07.go:51", after := #[], guard := none }, { dst := some 143, op := Op.move (Operand.tmp 9), type := 22, pos := "top07.go:51", after := #[], guard := none }, { dst := some 144, op := Op.call { callee := Callee.builtin Builtin.append, args := #[Operand.tmp 142, Operand.tmp 143], argTypes := #[22, 22] }, type := 22, pos := "top07.go:51", after := #[{ on := 1, ground := Ground.data }, { on := 2, ground := Ground.data }], guard := none }, { dst := some 145, op := Op.move (Operand.tmp 15), type := 9, pos := "top07.go:51", after := #[], guard := none }, { dst := some 146, op := Op.buildSlice 22 1 #[(0, Operand.tmp 145)], type := 22, pos := "top07.go:51", after := #[{ on := 4, ground := Ground.data }], guard := none }, { dst := some 147, op := Op.call { callee := Callee.builtin Builtin.append, args := #[Operand.tmp 144, Operand.tmp 146], argTypes := #[22, 22] }, type := 22, pos := "top07.go:51", after := #[{ on := 3, ground := Ground.data }, { on := 5, ground := Ground.data }, { on := 3, ground := Ground.chain }], guard := none }, { dst := some 148, op := Op.move (Operand.tmp 15), type := 9, pos := "top07.go:51", after := #[], guard := none }, { dst := some 149, op := Op.buildSlice 22 1 #[(0, Operand.tmp 148)], type := 22, pos := "top07.go:51", after := #[{ on := 7, ground := Ground.data }], guard := none }, { dst := some 150, op := Op.move (Operand.tmp 10), type := 22, pos := "top07.go:51", after := #[], guard := none }, { dst := some 151, op := Op.call { callee := Callee.builtin Builtin.append, args := #[Operand.tmp 149, Operand.tmp 150], argTypes := #[22, 22] }, type := 22, pos := "top07.go:51", after := #[{ on := 8, ground := Ground.data }, { on := 9, ground := Ground.data }, { on := 6, ground := Ground.chain }], guard := none }, { dst := some 152, op := Op.call { callee := Callee.value (Operand.func 4), args := #[Operand.tmp 141, Operand.tmp 147, Operand.tmp 151], argTypes := #[32, 22, 22] }, type := 37, pos := "top07.go:51", after := #[{ on := 0, ground := Ground.data }, { on := 6, ground := Ground.data }, { on := 10, ground := Ground.data }, { on := 10, ground := Ground.chain }], guard := none }, { dst := some 140, op := Op.move (Operand.tmp 152), type := 37, pos := "top07.go:51", after := #[{ on := 11, ground := Ground.data }], guard := none }, { dst := some 153, op := Op.extract (Operand.tmp 140) 0, type := 35, pos := "top07.go:51", after := #[{ on := 12, ground := Ground.data }], guard := none }, { dst := some 154, op := Op.extract (Operand.tmp 140) 1, type := 3, pos := "top07.go:51", after := #[{ on := 12, ground := Ground.data }, { on := 17, ground := Ground.gcOnly Departure.lateStores }], guard := none }, { dst := some 155, op := Op.extract (Operand.tmp 140) 2, type := 36, pos := "top07.go:51", after := #[{ on := 12, ground := Ground.data }, { on := 18, ground := Ground.gcOnly Departure.lateStores }], guard := none }, { dst := some 23, op := Op.alloc 35, type := 0, pos := "top07.go:51", after := #[], guard := none }, { dst := none, op := Op.store 35 (Operand.tmp 23) (Operand.tmp 153), type := 0, pos := "top07.go:51", after := #[{ on := 16, ground := Ground.data }, { on := 13, ground := Ground.data }, { on := 11, ground := Ground.chain }, { on := 0, ground := Ground.phase }, { on := 1, ground := Ground.phase }, { on := 2, ground := Ground.phase }, { on := 3, ground := Ground.phase }, { on := 4, ground := Ground.phase }, { on := 5, ground := Ground.phase }, { on := 6, ground := Ground.phase }, { on := 7, ground := Ground.phase }, { on := 8, ground := Ground.phase }, { on := 9, ground := Ground.phase }, { on := 10, ground := Ground.phase }, { on := 11, ground := Ground.phase }, { on := 12, ground := Ground.phase }, { on := 13, ground := Ground.phase }, { on := 14, ground := Ground.textOnly Departure.lateStores }, { on := 15, ground := Ground.textOnly Departure.lateStores }, { on := 16, ground := Ground.phase }], guard := none }, { dst := some 24, op := Op.assign (Operand.tmp 154), type := 3, pos := "top07.go:51", after := #[{ on := 14, ground := Ground.data }, { on := 17, ground := Ground.chain }, { on := 0, ground := Ground.phase }, { on := 1, ground := Ground.phase }, { on := 2, ground := Ground.phase }, { on := 3, ground := Ground.phase }, { on := 4, ground := Ground.phase }, { on := 5, ground := Ground.phase }, { on := 6, ground := Ground.phase }, { on := 7, ground := Ground.phase }, { on := 8, ground := Ground.phase }, { on := 9, ground := Ground.phase }, { on := 10, ground := Ground.phase }, { on := 11, ground := Ground.phase }, { on := 12, ground := Ground.phase }, { on := 13, ground := Ground.phase }, { on := 14, ground := Ground.phase }, { on := 15, ground := Ground.textOnly Departure.lateStores }, { on := 16, ground := Ground.phase }, { on := 17, ground := Ground.phase }], guard := none }, { dst := some 14, op := Op.assign (Operand.tmp 155), type := 36, pos := "top07.go:51", after := #[{ on := 15, ground := Ground.data }, { on := 18, ground := Ground.chain }, { on := 0, ground := Ground.phase }, { on := 1, ground := Ground.phase }, { on := 2, ground := Ground.phase }, { on := 3, ground := Ground.phase }, { on := 4, ground := Ground.phase }, { on := 5, ground := Ground.phase }, { on := 6, ground := Ground.phase }, { on := 7, ground := Ground.phase }, { on := 8, ground := Ground.phase }, { on := 9, ground := Ground.phase }, { on := 10, ground := Ground.phase }, { on := 11, ground := Ground.phase }, { on := 12, ground := Ground.phase }, { on := 13, ground := Ground.phase }, { on := 14, ground := Ground.phase }, { on := 15, ground := Ground.phase }, { on := 16, ground := Ground.phase }, { on := 17, ground := Ground.phase }, { on := 18, ground := Ground.phase }], guard := none }]
theorem full_own {w : World} {E base : Nat} {T : TypeId} {xs : List Value} (h : w.heap[E]? = some (.cells xs.toArray T (0, 0))) (hb : base ≤ E) (hm : xs.length ≤ maxLen) : w.ownsRow base T 1 (.slice (some ⟨E, 0, none⟩) xs.length xs.length) xs.length xs :=
  ⟨by simp, Or.inr ⟨E, xs.length, xs.toArray, rfl, hb, h, Nat.le_refl _, hm, by simp, by simp⟩⟩
/-- append to a full row: another row, or the same where there is nothing to append; no other block turns -/
theorem run_append_full {P : Program} (w : World) (t ty e : TypeId) (i : TypeInfo) (z : Value) (bytes : Nat) (ht : P.underlying t = some (.slice e)) (hi : P.info? e = some i) (hz : i.zero = some z)
    (hsize : i.size = 1) (hby : i.bytes = bytes) (hzs : z.cells.size = 1) (base E : Nat) (l0 : List ByteArray) (h0 : w.heap[E]? = some (.cells (l0.map Value.string).toArray e (0, 0))) (hE : base ≤ E) {x : Nat → Prop} (sv : Value) (l : List ByteArray) (hl : StrsX x w sv l)
    (h63 : l0.length + l.length ≤ maxLen) (hbytes : (l0.length + l.length) * bytes ≤ 140737488355328) (hbase : base ≤ w.heap.size) :
    ∃ v' w', (Builtin.append_ #[t, t] ty #[.slice (some ⟨E, 0, none⟩) l0.length l0.length, sv]).run P w = .ok v' w' ∧ w'.ownsRow base e 1 v' (l0.length + l.length) ((l0 ++ l).map Value.string) ∧ Below w.heap.size w w' ∧ (v'.ownBlock = some E ∨ ∃ g, v'.ownBlock = some g ∧ w.heap.size ≤ g) := by
  obtain ⟨a, cap, rfl, h1, h2, h3, h4, h5⟩ := id hl
  have hml : (l0.map Value.string).length ≤ maxLen := by rw [List.length_map]; omega
  by_cases hz0 : l.length = 0
  · obtain rfl := List.length_eq_zero_iff.1 hz0
    have hsrc : Src P i.size t (.slice a 0 cap) 0 [] w := by
      cases a with
      | none => exact Src.ofNil w ht cap
      | some a => exact Src.ofSlice w ht a 0 cap [] (by simp) (fun j u h => by simp at h) (fun u h => by cases h)
    refine ⟨_, w, run_append_nothing w t t ty e i ht hi _ _ _ (Nat.le_refl _) _ hsrc, ?_, Below.refl _ _, Or.inl rfl⟩
    have := full_own (base := base) h0 hE hml
    rw [List.length_map] at this
    rw [List.append_nil]
    exact this
  · cases a with
    | none => exact absurd (h3 rfl) (by omega)
    | some a =>
      have rd : ∀ j u, (l.map Value.string)[j]? = some u → w.cell? (a.add j) = some u := fun j u hu => by
        rcases h4.row with h | ⟨b, o, ha, hc⟩
        · rw [h] at hu; simp at hu
        · injection ha with ha
          subst ha
          have hj := (List.getElem?_eq_some_iff.1 hu).1
          rw [addr_at, hc j hj, hu]
      have rd0 : ∀ j u, (l0.map Value.string)[j]? = some u → w.cell? ((⟨E, 0, none⟩ : Addr).add j) = some u := fun j u hu => by
        rw [addr_at, Nat.zero_add]
        refine cell_of_row w E j _ _ _ h0 |>.trans ?_
        rw [← hu]
        simp
      have hr := run_append_grow (P := P) w t ty e i z ht hi hz ⟨E, 0, none⟩ l0.length l0.length (l0.map Value.string) (by rw [hsize]; simp) rd0 a l.length cap (l.map Value.string) (by rw [hsize]; simp) rd (by omega) (by unfold maxLen at h63; omega) (by rw [hby]; exact growslice_fits (by omega) hbytes)
      have hge := grownCap_ge w (l0.length + l.length) l0.length e
      have hcm : grownCap w (l0.length + l.length) l0.length e ≤ maxLen := grownCap_le_maxLen w (l0.length + l.length) l0.length e h63
      refine ⟨_, _, hr, ⟨by simp, Or.inr ⟨w.heap.size, _, _, rfl, hbase, heap_alloc_new w.drew _, hge, hcm, ?_, ?_⟩⟩, ((Below.refl _ _).drew).alloc (Nat.le_refl _) _, Or.inr ⟨_, rfl, Nat.le_refl _⟩⟩
      · rw [Array.size_append, Array.size_append, size_zeroCells, hzs]
        simp
        omega
      · rw [Nat.mul_one, Array.toList_append, Array.toList_append, List.map_append]
        have e1 : l0.length + l.length = ((l0.map Value.string).toArray.toList ++ (l.map Value.string).toArray.toList).length := by simp
        rw [List.take_append_of_le_length (by rw [← e1]; omega), e1, List.take_length]
def inS (k : Nat) : Bool := k == 14 || k == 23 || k == 24 || (decide (140 ≤ k) && decide (k ≤ 155))
structure Fr (T tm : Array Value) (xV fv gv : Value) (O : ByteArray) : Prop where
  size : tm.size = 183
  same : ∀ k, inS k = false → tm[k]? = T[k]?
  x : tm[141]? = some xV
  f : tm[143]? = some fv
  o1 : tm[145]? = some (.string O)
  o2 : tm[148]? = some (.string O)
  g : tm[150]? = some gv
theorem put_same {tm : Array Value} {d : Nat} {v : Value} (h : d < tm.size) : (tm.setIfInBounds d v)[d]? = some v := by simp [h]
theorem put_get {tm : Array Value} {d k : Nat} {v u : Value} (h : tm[k]? = some u) (hne : d ≠ k) : (tm.setIfInBounds d v)[k]? = some u := by simp [hne, h]
theorem Fr.put {T tm : Array Value} {xV fv gv : Value} {O : ByteArray} (h : Fr T tm xV fv gv O) (d : Nat) (v : Value) (hd : (inS d && d != 141 && d != 143 && d != 145 && d != 148 && d != 150) = true) : Fr T (tm.setIfInBounds d v) xV fv gv O := by
  simp only [Bool.and_eq_true, bne_iff_ne, ne_eq] at hd
  obtain ⟨⟨⟨⟨⟨h0, h1⟩, h2⟩, h3⟩, h4⟩, h5⟩ := hd
  refine ⟨by simpa using h.size, fun k hk => ?_, put_get h.x h1, put_get h.f h2, put_get h.o1 h3, put_get h.o2 h4, put_get h.g h5⟩
  have hne : d ≠ k := fun e => by rw [← e, h0] at hk; cases hk
  rw [← h.same k hk]
  simp [hne]
theorem step36_1 {tm : Array Value} {W : World} {K : Act → World → Prop} {Q : Exit → Act → World → Prop} (h : K { tmps := tm.setIfInBounds 142 (.slice (some ⟨W.heap.size, 0, none⟩) 0 0), defers := [] } (W.alloc (.cells #[] 9))) : Oper.wp Try.prog o36_1 { tmps := tm, defers := [] } W K Q := by
  unfold Oper.wp o36_1
  go_simp
  exact h
theorem step36_5 {tm : Array Value} {W : World} {K : Act → World → Prop} {Q : Exit → Act → World → Prop} {O : ByteArray} (h1 : tm[145]? = some (.string O)) (h : K { tmps := tm.setIfInBounds 146 (.slice (some ⟨W.heap.size, 0, none⟩) 1 1), defers := [] } (W.alloc (.cells #[.string O] 9))) : Oper.wp Try.prog o36_5 { tmps := tm, defers := [] } W K Q := by
  unfold Oper.wp o36_5
  go_simp
  exact h
theorem step36_8 {tm : Array Value} {W : World} {K : Act → World → Prop} {Q : Exit → Act → World → Prop} {O : ByteArray} (h1 : tm[148]? = some (.string O)) (h : K { tmps := tm.setIfInBounds 149 (.slice (some ⟨W.heap.size, 0, none⟩) 1 1), defers := [] } (W.alloc (.cells #[.string O] 9))) : Oper.wp Try.prog o36_8 { tmps := tm, defers := [] } W K Q := by
  unfold Oper.wp o36_8
  go_simp
  exact h
theorem step36_16 {tm : Array Value} {W : World} {K : Act → World → Prop} {Q : Exit → Act → World → Prop} (h : K { tmps := tm.setIfInBounds 23 (.pointer (some ⟨W.heap.size, 0, none⟩)), defers := [] } (W.alloc (.cells #[.string ⟨#[]⟩, .int .i64 0, .int .i64 0, .int .i64 0, .slice none 0 0] 35))) : Oper.wp Try.prog o36_16 { tmps := tm, defers := [] } W K Q := by
  unfold Oper.wp o36_16
  go_simp
  exact h
theorem eval_tmp {tm : Array Value} {k : Nat} {v : Value} (h : tm[k]? = some v) : Act.eval { tmps := tm, defers := [] } (.tmp k) = v := by simp [Act.eval, h]
theorem step36_3 {tm : Array Value} {W : World} {K : Act → World → Prop} {Q : Exit → Act → World → Prop} {B Ea : Nat} {fv : Value} {F : List ByteArray} {x : Nat → Prop} (h1 : tm[142]? = some (.slice (some ⟨Ea, 0, none⟩) 0 0)) (h2 : tm[143]? = some fv) (hE : W.heap[Ea]? = some (.cells #[] 9 (0, 0))) (hB : B ≤ Ea) (hl : StrsX x W fv F) (hF : F.length ≤ 8) (hBW : B ≤ W.heap.size)
    (h : ∀ v' W', W'.ownsRow B 9 1 v' F.length (F.map Value.string) → Below W.heap.size W W' → (v'.ownBlock = some Ea ∨ ∃ g, v'.ownBlock = some g ∧ W.heap.size ≤ g) → K { tmps := tm.setIfInBounds 144 v', defers := [] } W') : Oper.wp Try.prog o36_3 { tmps := tm, defers := [] } W K Q := by
  obtain ⟨iS, hiS, sz0, sz1, sz2⟩ := info_parts strInfo
  obtain ⟨v', W', hr, r2, r3, r4⟩ := run_append_full (P := Try.prog) W 22 22 9 iS _ 16 Try.underlying22 hiS sz0 sz1 sz2 rfl B Ea [] hE hB fv F hl (by unfold maxLen; simp; omega) (by simp; omega) hBW
  have e1 := eval_tmp h1
  have e2 := eval_tmp h2
  unfold Oper.wp execOp o36_3
  simp only [resolve, invoke, builtin, Sem.run_bind, Sem.run_pure, Result.andThen_ok, List.map_toArray, List.map_cons, List.map_nil, e1, e2]
  have hr' : (Builtin.append_ #[22, 22] 22 #[.slice (some ⟨Ea, 0, none⟩) 0 0, fv]).run Try.prog W = .ok v' W' := hr
  simp only [hr']
  exact h v' W' (by simpa using r2) r3 r4
theorem step36_10 {tm : Array Value} {W : World} {K : Act → World → Prop} {Q : Exit → Act → World → Prop} {B Ed : Nat} {gv : Value} {G : List ByteArray} {O : ByteArray} {x : Nat → Prop} (h1 : tm[149]? = some (.slice (some ⟨Ed, 0, none⟩) 1 1)) (h2 : tm[150]? = some gv) (hE : W.heap[Ed]? = some (.cells #[.string O] 9 (0, 0))) (hB : B ≤ Ed) (hl : StrsX x W gv G) (hG : G.length ≤ 8) (hBW : B ≤ W.heap.size) (hO : O.size ≤ maxLen)
    (h : ∀ v' W', StrsX (fun _ => True) W' v' (O :: G) → Below W.heap.size W W' → K { tmps := tm.setIfInBounds 151 v', defers := [] } W') : Oper.wp Try.prog o36_10 { tmps := tm, defers := [] } W K Q := by
  obtain ⟨iS, hiS, sz0, sz1, sz2⟩ := info_parts strInfo
  obtain ⟨v', W', hr, r2, r3, r4⟩ := run_append_full (P := Try.prog) W 22 22 9 iS _ 16 Try.underlying22 hiS sz0 sz1 sz2 rfl B Ed [O] hE hB gv G hl (by unfold maxLen; simp; omega) (by simp; omega) hBW
  have e1 := eval_tmp h1
  have e2 := eval_tmp h2
  unfold Oper.wp execOp o36_10
  simp only [resolve, invoke, builtin, Sem.run_bind, Sem.run_pure, Result.andThen_ok, List.map_toArray, List.map_cons, List.map_nil, e1, e2]
  have hr' : (Builtin.append_ #[22, 22] 22 #[.slice (some ⟨Ed, 0, none⟩) 1 1, gv]).run Try.prog W = .ok v' W' := hr
  simp only [hr']
  have r2' : W'.ownsRow B 9 1 v' (O :: G).length ((O :: G).map Value.string) := by
    have e : (O :: G).length = [O].length + G.length := by simp; omega
    rw [e]
    exact r2
  exact h v' W' (strs_own r2' (fun _ _ => trivial) fun s hs => by
    rcases List.mem_cons.1 hs with rfl | hs
    · exact hO
    · obtain ⟨_, _, _, _, _, _, _, hz⟩ := hl
      exact hz s hs) r3
theorem str_one {w : World} {E : Nat} {s : ByteArray} (h : w.heap[E]? = some (.cells #[.string s] 9 (0, 0))) (hs : s.size ≤ maxLen) : StrsX (fun b => b = E) w (.slice (some ⟨E, 0, none⟩) 1 1) [s] :=
  ⟨_, 1, rfl, Nat.le_refl _, by unfold maxLen; omega, fun h => (by cases h), Or.inr ⟨E, 0, rfl, rfl, fun j hj => by
    obtain rfl : j = 0 := by simp at hj; omega
    exact cell_of_row w E 0 _ _ _ h⟩, fun y hy => by
    obtain rfl : y = s := by simpa using hy
    exact hs⟩
theorem step36_6 {tm : Array Value} {W : World} {K : Act → World → Prop} {Q : Exit → Act → World → Prop} {B Eb : Nat} {v1 : Value} {F : List ByteArray} {O : ByteArray} (h1 : tm[144]? = some v1) (h2 : tm[146]? = some (.slice (some ⟨Eb, 0, none⟩) 1 1)) (hE : W.heap[Eb]? = some (.cells #[.string O] 9 (0, 0))) (hown : W.ownsRow B 9 1 v1 F.length (F.map Value.string)) (hF : F.length ≤ 8) (hFz : ∀ s, s ∈ F → s.size ≤ maxLen) (hBW : B ≤ W.heap.size) (hO : O.size ≤ maxLen)
    (h : ∀ v' W', StrsX (fun _ => True) W' v' (F ++ [O]) → W.grownBy W' v1.ownBlock → K { tmps := tm.setIfInBounds 147 v', defers := [] } W') : Oper.wp Try.prog o36_6 { tmps := tm, defers := [] } W K Q := by
  obtain ⟨iS, hiS, sz0, sz1, sz2⟩ := info_parts strInfo
  obtain ⟨v', W', hr, r2, r3, r4⟩ := run_append_strs (P := Try.prog) W B 22 22 9 iS _ 16 Try.underlying22 hiS sz0 sz1 sz2 rfl v1 F.length (F.map Value.string) hown _ [O] (str_one hE hO) (by unfold maxLen; simp; omega) (by simp; omega) hBW
  have e1 := eval_tmp h1
  have e2 := eval_tmp h2
  unfold Oper.wp execOp o36_6
  simp only [resolve, invoke, builtin, Sem.run_bind, Sem.run_pure, Result.andThen_ok, List.map_toArray, List.map_cons, List.map_nil, e1, e2]
  simp only [hr]
  have r2' : W'.ownsRow B 9 1 v' (F ++ [O]).length ((F ++ [O]).map Value.string) := by
    rw [List.length_append, List.map_append]
    exact r2
  exact h v' W' (strs_own r2' (fun _ _ => trivial) fun s hs => by
    rcases List.mem_append.1 hs with hs | hs
    · exact hFz s hs
    · obtain rfl : s = O := by simpa using hs
      exact hO) r3
theorem step36_11 {tm : Array Value} {W : World} {K : Act → World → Prop} {Q : Exit → Act → World → Prop} {xV v2 v3 : Value} {R : Value → World → Prop} (h1 : tm[141]? = some xV) (h2 : tm[147]? = some v2) (h3 : tm[151]? = some v3) (hc : Calls Try.prog 4 #[xV, v2, v3] W fun e w' => ∃ t, e = .returned t ∧ R t w')
    (h : ∀ t W', R t W' → K { tmps := tm.setIfInBounds 152 t, defers := [] } W') : Oper.wp Try.prog o36_11 { tmps := tm, defers := [] } W K Q := by
  have e1 := eval_tmp h1
  have e2 := eval_tmp h2
  have e3 := eval_tmp h3
  unfold Oper.wp o36_11
  go_simp
  refine hc.mono ?_
  rintro e w' ⟨t, rfl, ht⟩
  exact h t w' ht
theorem step36_17 {tm : Array Value} {W : World} {K : Act → World → Prop} {Q : Exit → Act → World → Prop} {E : Nat} {u0 u1 u2 u3 u4 : Value} {nm : ByteArray} {k1 k2 k3 : Int} {aa : Option Addr} {an ac : Nat} (h1 : tm[23]? = some (.pointer (some ⟨E, 0, none⟩))) (h2 : tm[153]? = some (.agg #[.string nm, .int .i64 k1, .int .i64 k2, .int .i64 k3, .slice aa an ac])) (hE : W.heap[E]? = some (.cells #[u0, u1, u2, u3, u4] 35 (0, 0)))
    (h : ∀ W', W'.heap[E]? = some (.cells #[.string nm, .int .i64 k1, .int .i64 k2, .int .i64 k3, .slice aa an ac] 35 (0, 0)) → Ex (fun k => k = E) W W' → K { tmps := tm, defers := [] } W') : Oper.wp Try.prog o36_17 { tmps := tm, defers := [] } W K Q := by
  have c0 := cell_of_row W E 0 _ _ _ hE
  have c1 := cell_of_row W E 1 _ _ _ hE
  have c2 := cell_of_row W E 2 _ _ _ hE
  have c3 := cell_of_row W E 3 _ _ _ hE
  have c4 := cell_of_row W E 4 _ _ _ hE
  have cf : ∀ j, W.frozen? ⟨E, j, none⟩ = false := (by intro j; unfold World.frozen?; rw [hE]; simp)
  simp at c0 c1 c2 c3 c4
  have x1 := heap_set5 hE (.string nm) (.int .i64 k1) (.int .i64 k2) (.int .i64 k3) (.slice aa an ac)
  have x2 : Ex (fun k => k = E) W (((((W.setCell ⟨E, 0, none⟩ (.string nm)).setCell ⟨E, 1, none⟩ (.int .i64 k1)).setCell ⟨E, 2, none⟩ (.int .i64 k2)).setCell ⟨E, 3, none⟩ (.int .i64 k3)).setCell ⟨E, 4, none⟩ (.slice aa an ac)) := ((((Ex.set W _).trans (Ex.set _ _)).trans (Ex.set _ _)).trans (Ex.set _ _)).trans (Ex.set _ _)
  have HX1 := Lib.hid (h _ x1 x2)
  clear x1 x2 h hE
  unfold Oper.wp o36_17
  go_simp
  exact HX1.out
end Go.Proofs.Ytpfgidhchjcomaa
