/- Events in memory; copies of bytes. -/
import Derived.Test.YtffmkmhnhecmnaaLine
import Derived.Laws.CopyOwn
import Derived.Laws.AppendOwnNone
namespace Go.Proofs.Ytffmkmhnhecmnaa
open Go.RowKit
theorem calls_later_if {P : Program} {f : FuncId} {args : Array Value} {w : World} {x : Lt w} {v : Value}
    (h : ∀ W, Below w.heap.size w W → Calls P f args W fun e w' => e = .returned v ∧ Below W.heap.size W w') : Calls P f args (later w x) fun e w'' => e = .returned v ∧ ∃ y, w'' = later w y :=
  (h _ (later_below w x)).mono fun _ _ ⟨he, hb⟩ => ⟨he, later_of ((later_below w x).trans (hb.mono (later_below w x).size))⟩
/-- a row of a slice that the call owns, whatever its elements' size -/
theorem row_of_owns_any {w : World} {B e size n : Nat} {v : Value} {xs : List Value} (h : w.ownsRow B e size v n xs) : ∃ a cap, v = .slice a n cap ∧ n ≤ cap ∧ cap ≤ maxLen ∧ RowAt w a xs ∧ (a = none → cap = 0) := by
  obtain ⟨hl, h⟩ := h
  rcases h with ⟨hv, h0⟩ | ⟨g, cap, cur, hv, hB, hg, hn, hm, hs, ht⟩
  · subst h0
    exact ⟨none, 0, hv, Nat.le_refl _, by unfold maxLen; omega, Or.inl (List.length_eq_zero_iff.1 (by omega)), fun _ => rfl⟩
  · refine ⟨_, cap, hv, hn, hm, Or.inr ⟨g, 0, rfl, fun j hj => ?_⟩, fun h => by cases h⟩
    have e : w.cell? ⟨g, 0 + j, none⟩ = cur[j]? := by simp [World.cell?, hg]
    rw [e, ← ht, List.getElem?_take, if_pos (by omega)]
    simp
/-- these cells are those of these events -/
def EvCells (w : World) (xs : List Value) (es : List Ev) : Prop :=
  xs.length = es.length * 3 ∧ ∀ i e, es[i]? = some e → ∃ bv nm, xs[i * 3]? = some (.int .i64 e.kind) ∧ xs[i * 3 + 1]? = some bv ∧ xs[i * 3 + 2]? = some (.string nm) ∧ nm.data.toList = e.name ∧ BytesAt w bv e.bytes
theorem EvCells.nil (w : World) : EvCells w [] [] := ⟨rfl, fun i e h => by simp at h⟩
theorem EvCells.later {w w' : World} {xs : List Value} {es : List Ev} (h : EvCells w xs es) (hb : Below w.heap.size w w') : EvCells w' xs es :=
  ⟨h.1, fun i e he => let ⟨bv, nm, a, b, c, d, f⟩ := h.2 i e he; ⟨bv, nm, a, b, c, d, f.later hb⟩⟩
theorem EvCells.append {w : World} {xs ys : List Value} {es fs : List Ev} (h : EvCells w xs es) (k : EvCells w ys fs) : EvCells w (xs ++ ys) (es ++ fs) := by
  refine ⟨by rw [List.length_append, List.length_append, h.1, k.1]; omega, fun i e he => ?_⟩
  by_cases hi : i < es.length
  · rw [List.getElem?_append_left hi] at he
    obtain ⟨bv, nm, a, b, c, d, f⟩ := h.2 i e he
    have hl := h.1
    exact ⟨bv, nm, by rw [List.getElem?_append_left (by omega)]; exact a, by rw [List.getElem?_append_left (by omega)]; exact b, by rw [List.getElem?_append_left (by omega)]; exact c, d, f⟩
  · rw [List.getElem?_append_right (by omega)] at he
    obtain ⟨bv, nm, a, b, c, d, f⟩ := k.2 _ e he
    have hl := h.1
    refine ⟨bv, nm, ?_, ?_, ?_, d, f⟩
    · rw [List.getElem?_append_right (by omega), hl, ← a]; congr 1; omega
    · rw [List.getElem?_append_right (by omega), hl, ← b]; congr 1; omega
    · rw [List.getElem?_append_right (by omega), hl, ← c]; congr 1; omega
theorem EvCells.one {w : World} {bv : Value} {nm : ByteArray} {e : Ev} (hn : nm.data.toList = e.name) (hb : BytesAt w bv e.bytes) : EvCells w [.int .i64 e.kind, bv, .string nm] [e] := by
  refine ⟨rfl, fun i e' he => ?_⟩
  match i, he with
  | 0, he => simp at he; subst he; exact ⟨bv, nm, rfl, rfl, rfl, hn, hb⟩
/-- a slice that reads as these events -/
def EvsAt (w : World) (v : Value) (es : List Ev) : Prop := ∃ a cap xs, v = .slice a es.length cap ∧ es.length ≤ cap ∧ cap ≤ maxLen ∧ RowAt w a xs ∧ EvCells w xs es ∧ (a = none → cap = 0)
theorem EvsAt.later {w w' : World} {v : Value} {es : List Ev} (h : EvsAt w v es) (hb : Below w.heap.size w w') : EvsAt w' v es := by
  obtain ⟨a, cap, xs, hv, h1, h2, h3, h4, h5⟩ := h
  exact ⟨a, cap, xs, hv, h1, h2, h3.later hb, h4.later hb, h5⟩
theorem evs_of_owns {w : World} {B e n : Nat} {v : Value} {xs : List Value} {es : List Ev} (h : w.ownsRow B e 3 v n xs) (hc : EvCells w xs es) : EvsAt w v es := by
  have hl := h.1
  obtain ⟨a, cap, hv, h1, h2, h3, h5⟩ := row_of_owns_any h
  have hn : n = es.length := by have := hc.1; omega
  subst hn
  exact ⟨a, cap, xs, hv, h1, h2, h3, hc, h5⟩
/-- what a walk reads of one event -/
theorem EvsAt.get {w : World} {v : Value} {es : List Ev} (h : EvsAt w v es) : ∃ a cap, v = .slice a es.length cap ∧ es.length ≤ cap ∧ cap ≤ maxLen ∧ (a = none → cap = 0 ∧ es = []) ∧
    ∀ i e, es[i]? = some e → ∃ b o bv nm, a = some ⟨b, o, none⟩ ∧ b < w.heap.size ∧ w.cell? ⟨b, o + i * 3, none⟩ = some (.int .i64 e.kind) ∧ w.cell? ⟨b, o + i * 3 + 1, none⟩ = some bv ∧ w.cell? ⟨b, o + i * 3 + 2, none⟩ = some (.string nm) ∧
      nm.data.toList = e.name ∧ BytesAt w bv e.bytes := by
  obtain ⟨a, cap, xs, hv, h1, h2, h3, h4, h5⟩ := h
  refine ⟨a, cap, hv, h1, h2, ?_, fun i e he => ?_⟩
  · intro ha
    have hc := h5 ha
    exact ⟨hc, List.length_eq_zero_iff.1 (by omega)⟩
  obtain ⟨bv, nm, c0, c1, c2, hn, hb⟩ := h4.2 i e he
  have hi : i < es.length := (List.getElem?_eq_some_iff.1 he).1
  have hl := h4.1
  rcases h3 with h3 | ⟨b, o, ha, hc⟩
  · rw [h3] at hl; simp at hl; omega
  · have e0 := (hc (i * 3) (by omega)).trans c0
    have e1 := (hc (i * 3 + 1) (by omega)).trans c1
    have e2 := (hc (i * 3 + 2) (by omega)).trans c2
    exact ⟨b, o, bv, nm, ha, lt_of_cell e0, e0, by rw [Nat.add_assoc]; exact e1, by rw [Nat.add_assoc]; exact e2, hn, hb⟩
set_option maxRecDepth 100000 in
theorem copy_any (v : Value) (l : List UInt8) (w : World) (h : BytesAt w v l) (hl : l.length ≤ 1000000) :
    Calls Try.prog 19 #[v] w fun e w' => ∃ v', e = .returned v' ∧ OwnsB w' w.heap.size v' l ∧ Below w.heap.size w w' := by
  obtain ⟨i0, hi, hz0, hz1, hz2⟩ := info_parts byteInfo
  obtain ⟨a, cap, rfl, h1, h2, h3, h5⟩ := h
  have ho : (w.alloc (.cells #[] 5)).ownsRow w.heap.size 5 1 (.slice (some ⟨w.heap.size, 0, none⟩) 0 0) 0 [] := World.ownsRow_lit w #[] 0 (Nat.le_refl _) (by decide) rfl
  cases a with
  | none =>
    have hl0 : l = [] := by have := h3.none_nil; simpa [Lib.byteCells] using this
    have hc0 := h5 rfl
    subst hl0 hc0
    clear h1 h2 h3 h5
    go_enter Try.func19, Try.ntmps19
    go_wp2_with (at_builtin; refine wpList_append_own_none rfl _ _ 33 rfl w.heap.size 5 i0 1 Try.underlying33 hi _ _ _ rfl ho rfl ?_)
    go_ret
    exact ⟨_, rfl, ho, (Below.refl _ _).alloc (Nat.le_refl _) _⟩
  | some ad =>
    have h4 := (h3.later ((Below.refl _ w).alloc (Nat.le_refl _) (.cells #[] 5))).add
    have H4 := Lib.hid h4
    clear h3 h5 h4
    go_enter Try.func19, Try.ntmps19
    go_wp2_with (at_builtin; refine wpList_append_own _ rfl _ _ 33 rfl w.heap.size 5 i0 (.int .u8 0) 1 1 Try.underlying33 hi hz0 hz1 hz2 rfl (by decide) _ _ _ rfl ho ad l.length cap (Lib.byteCells l) rfl (by rw [Lib.byteCells_length]; omega) H4.out ?c2 ?c3 ?c4 ?c5 ?_)
    case c2 => intro u hu; simp only [Lib.byteCells, List.mem_map] at hu; obtain ⟨b, _, rfl⟩ := hu; rfl
    case c3 => unfold maxLen; omega
    case c4 => omega
    case c5 => simp
    intro v' w1 hown' hgrow _
    have ho1 : OwnsB w1 w.heap.size v' l := ownsB_of hown' rfl
    have hb1 := ((Below.refl w.heap.size w).alloc (Nat.le_refl _) (.cells #[] 5)).grown hgrow (by simp) (fun q hq => (ho.lt q hq).1)
    have HO := Lib.hid ho1; have HB := Lib.hid hb1; clear hown' hgrow ho1 hb1
    go_wp2_with fail
    go_ret
    exact ⟨_, rfl, HO.out, HB.out⟩
end Go.Proofs.Ytffmkmhnhecmnaa
