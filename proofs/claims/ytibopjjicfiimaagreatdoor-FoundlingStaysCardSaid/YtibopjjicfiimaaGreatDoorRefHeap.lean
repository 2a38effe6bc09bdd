/- Bytes of the call's own: copies, joins, comparison. Words in memory. The document's heap in memory: a list of objects. -/
import Derived.Test.YtibopjjicfiimaaGreatDoorMem
import Derived.Test.YtibopjjicfiimaaGreatDoorLater
import Derived.Deep.LoopGhost
import Derived.BigGuardPart
import Derived.Lib.Strings
import Derived.Lib.Builder
import Derived.Lib.UnsafeStr
import Derived.Laws.CopyOwn
import Derived.Laws.AppendOwnNone
import Derived.Deep.RegionHeld3
import Derived.Deep.AppendLies
namespace Go.Proofs.YtibopjjicfiimaaGreatDoor
open Go.RowKit
theorem byteInfo : (Tryz.prog.info? 5).map (fun i => (i.zero, i.size, i.bytes)) = some (some (.int .u8 0), 1, 1) := by kernel_rfl
theorem owns_one {w : World} {e : TypeId} {cs : List Value} {n : Nat} (hn : cs.length = n) (hm : n ≤ maxLen) : (w.alloc (.cells cs.toArray e)).ownsRow w.heap.size e 1 (.slice (some ⟨w.heap.size, 0, none⟩) n n) n cs :=
  ⟨by omega, .inr ⟨w.heap.size, n, cs.toArray, rfl, Nat.le_refl _, heap_alloc_new w _, Nat.le_refl _, hm, by simp [hn], by simp [← hn]⟩⟩
/-- a slice of the call's own that holds these bytes -/
def OwnsB (w : World) (B : Nat) (v : Value) (l : List UInt8) : Prop := w.ownsRow B 5 1 v l.length (Lib.byteCells l)
theorem ownsB_of {w : World} {B n : Nat} {v : Value} {xs : List Value} {l : List UInt8} (h : w.ownsRow B 5 1 v n xs) (hx : xs = Lib.byteCells l) : OwnsB w B v l := by
  subst hx
  have hn : n = l.length := by have := h.1; rw [Lib.byteCells_length] at this; omega
  subst hn
  exact h
theorem calls_later_if {P : Program} {f : FuncId} {args : Array Value} {w : World} {x : Lt w} {v : Value}
    (h : ∀ W, Below w.heap.size w W → Calls P f args W fun e w' => e = .returned v ∧ Below W.heap.size W w') : Calls P f args (later w x) fun e w'' => e = .returned v ∧ ∃ y, w'' = later w y :=
  (h _ (later_below w x)).mono fun _ _ ⟨he, hb⟩ => ⟨he, later_of ((later_below w x).trans (hb.mono (later_below w x).size))⟩
/-- a row of a slice that the call owns, whatever its elements' size -/
theorem row_of_owns_any {w : World} {B e size n : Nat} {v : Value} {xs : List Value} (h : w.ownsRow B e size v n xs) : ∃ a cap, v = .slice a n cap ∧ n ≤ cap ∧ cap ≤ maxLen ∧ RowAt w a xs ∧ (a = none → cap = 0) := by
  obtain ⟨hl, h⟩ := h
  rcases h with ⟨hv, h0⟩ | ⟨g, cap, cur, hv, hB, hg, hn, hm, hs, ht⟩
  · subst h0
    exact ⟨none, 0, hv, Nat.le_refl _, by unfold maxLen; omega, Or.inl (List.length_eq_zero_iff.1 (by omega)), fun _ => rfl⟩
  · refine ⟨_, cap, hv, hn, hm, Or.inr ⟨g, 0, rfl, fun j hj => ?_⟩, fun h => by cases h⟩
    have e : w.cell? ⟨g, 0 + j, none⟩ = cur[j]? := by simp [World.cell?, hg]
    rw [e, ← ht, List.getElem?_take, if_pos (by omega)]
    simp
set_option maxRecDepth 100000 in
theorem copy_any (v : Value) (l : List UInt8) (w : World) (h : BytesAt w v l) (hl : l.length ≤ 1000000) :
    Calls Tryz.prog 48 #[v] w fun e w' => ∃ v', e = .returned v' ∧ OwnsB w' w.heap.size v' l ∧ Below w.heap.size w w' := by
  obtain ⟨i0, hi, hz0, hz1, hz2⟩ := info_parts byteInfo
  obtain ⟨a, cap, rfl, h1, h2, h3, h5⟩ := h
  have ho : (w.alloc (.cells #[] 5)).ownsRow w.heap.size 5 1 (.slice (some ⟨w.heap.size, 0, none⟩) 0 0) 0 [] := World.ownsRow_lit w #[] 0 (Nat.le_refl _) (by decide) rfl
  cases a with
  | none =>
    have hl0 : l = [] := by have := h3.none_nil; simpa [Lib.byteCells] using this
    have hc0 := h5 rfl
    subst hl0 hc0
    clear h1 h2 h3 h5
    go_enter Tryz.func48, Tryz.ntmps48
    go_wp2_with (at_builtin; refine wpList_append_own_none rfl _ _ 43 rfl w.heap.size 5 i0 1 Tryz.underlying43 hi _ _ _ rfl ho rfl ?_)
    go_ret
    exact ⟨_, rfl, ho, (Below.refl _ _).alloc (Nat.le_refl _) _⟩
  | some ad =>
    have h4 := (h3.later ((Below.refl _ w).alloc (Nat.le_refl _) (.cells #[] 5))).add
    have H4 := Lib.hid h4
    clear h3 h5 h4
    go_enter Tryz.func48, Tryz.ntmps48
    go_wp2_with (at_builtin; refine wpList_append_own _ rfl _ _ 43 rfl w.heap.size 5 i0 (.int .u8 0) 1 1 Tryz.underlying43 hi hz0 hz1 hz2 rfl (by decide) _ _ _ rfl ho ad l.length cap (Lib.byteCells l) rfl (by rw [Lib.byteCells_length]; omega) H4.out ?c2 ?c3 ?c4 ?c5 ?_)
    case c2 => intro u hu; simp only [Lib.byteCells, List.mem_map] at hu; obtain ⟨b, _, rfl⟩ := hu; rfl
    case c3 => unfold maxLen; omega
    case c4 => omega
    case c5 => simp
    intro v' w1 hown' hgrow _
    have ho1 : OwnsB w1 w.heap.size v' l := ownsB_of hown' rfl
    have hb1 := ((Below.refl w.heap.size w).alloc (Nat.le_refl _) (.cells #[] 5)).grown hgrow (by simp) (fun q hq => (ho.lt q hq).1)
    have HO := Lib.hid ho1; have HB := Lib.hid hb1; clear hown' hgrow ho1 hb1
    go_wp2_with fail
    go_ret
    exact ⟨_, rfl, HO.out, HB.out⟩
theorem ownsB_shape {w : World} {B : Nat} {v : Value} {l : List UInt8} (h : OwnsB w B v l) : ∃ a c, v = .slice a l.length c := by
  obtain ⟨a, c, hv, -⟩ := row_of_owns_any h
  exact ⟨a, c, hv⟩
theorem grown_of_below {w w' : World} (h : Below w.heap.size w w') : w.grownBy w' none := ⟨h.os, h.tape, h.output, h.size, fun k hk _ => h.block k hk⟩
theorem owns_later {w w' : World} {B e size n : Nat} {v : Value} {xs : List Value} (h : w.ownsRow B e size v n xs) (hb : Below w.heap.size w w') : w'.ownsRow B e size v n xs := by
  refine h.kept (grown_of_below hb) ?_
  cases v.ownBlock with
  | none => exact Or.inl rfl
  | some k => exact Or.inr (by simp)
theorem own_keep {w5 w6 : World} {o : Obj} {v u : Value} {p j : Nat} (hg : (w5.alloc o).grownBy w6 v.ownBlock) (hp : p < w5.heap.size) (hv : ∀ k, v.ownBlock = some k → k ≠ p) (h : w5.cell? ⟨p, j, none⟩ = some u) : w6.cell? ⟨p, j, none⟩ = some u := by
  have e : w6.heap[p]? = (w5.alloc o).heap[p]? := hg.block p (by simp; omega) (fun e => hv p e.symm rfl)
  rw [World.cell?_of_block (w := w5.alloc o) (a := ⟨p, j, none⟩) e]
  rw [World.cell?_alloc_past o p j hp]
  exact h
theorem bytes_take {w : World} {a : Option Addr} {c m : Nat} {l : List UInt8} (h : BytesAt w (.slice a l.length c) l) (hm : m ≤ l.length) : BytesAt w (.slice a m c) (l.take m) := by
  obtain ⟨a', c', hv, h1, h2, h3, h4⟩ := h
  injection hv with ha _ hc
  subst ha hc
  have hlen : (l.take m).length = m := by rw [List.length_take]; omega
  refine ⟨a, c, by rw [hlen], by omega, h2, ?_, h4⟩
  rcases h3 with h3 | ⟨b, o, hab, hcell⟩
  · refine Or.inl ?_
    have hl0 : l = [] := by simpa [Lib.byteCells] using h3
    subst hl0; simp [Lib.byteCells]
  · refine Or.inr ⟨b, o, hab, fun j hj => ?_⟩
    rw [Lib.byteCells_length, hlen] at hj
    rw [hcell j (by rw [Lib.byteCells_length]; omega)]
    simp only [Lib.byteCells, List.map_take]
    rw [List.getElem?_take, if_pos hj]
theorem owns_weak {w : World} {B B' : Nat} {v : Value} {l l' : List UInt8} (h : OwnsB w B v l) (hl : l = l') (hB : B' ≤ B) : OwnsB w B' v l' := by
  subst hl
  obtain ⟨h1, h2⟩ := h
  refine ⟨h1, ?_⟩
  rcases h2 with h2 | ⟨g, cap, cur, a, b, c⟩
  · exact Or.inl h2
  · exact Or.inr ⟨g, cap, cur, a, Nat.le_trans hB b, c⟩
theorem grown_refl (w : World) (r : Option Nat) : w.grownBy w r := ⟨rfl, rfl, rfl, Nat.le_refl _, fun _ _ _ => rfl⟩
theorem wpList_append_row {P : Program} {w : World} {ops : Array Oper} {rest : List Oper} {o : Oper} {a : Act} {Q : Exit → Act → World → Prop} (hgd : o.guard = none) (s x : Operand) (t : TypeId)
    (ho : o.op = .call { callee := .builtin .append, args := #[s, x], argTypes := #[t, t] })
    (base : Nat) (e : TypeId) (i : TypeInfo) (z : Value) (size bytes : Nat) (ht : P.underlying t = some (.slice e)) (hi : P.info? e = some i) (hz : i.zero = some z)
    (hsize : i.size = size) (hby : i.bytes = bytes) (hzs : z.cells.size = size) (hsz : 0 < size)
    (v : Value) (n : Nat) (xs : List Value) (hs : a.eval s = v) (hown : w.ownsRow base e size v n xs)
    (ad : Option Addr) (m c : Nat) (news : List Value) (hx : a.eval x = .slice ad m c) (hl : news.length = m * size) (hnews : RowAt w ad news) (hnone : ad = none → c = 0) (hmc : m ≤ c) (h1 : ∀ u ∈ news, u.oneCell' = true)
    (h63 : n + m ≤ maxLen) (hbytes : (n + m) * bytes ≤ 140737488355328) (hbase : base ≤ w.heap.size)
    (h : ∀ v' w', w'.ownsRow base e size v' (n + m) (xs ++ news) → w.grownBy w' v.ownBlock → wpList P ops Q rest (a.put o.dst v') w') : wpList P ops Q (o :: rest) a w := by
  cases ad with
  | none =>
    have hc := hnone rfl
    subst hc
    obtain rfl : m = 0 := by omega
    obtain rfl : news = [] := List.length_eq_zero_iff.1 (by omega)
    refine wpList_append_own_none hgd s x t ho base e i size ht hi v n xs hs hown hx (h v w ?_ (grown_refl _ _))
    rw [List.append_nil]; exact hown
  | some ad => exact wpList_append_own w hgd s x t ho base e i z size bytes ht hi hz hsize hby hzs hsz v n xs hs hown ad m c news hx hl hnews.add h1 h63 hbytes hbase (fun v' w' h1 h2 _ => h v' w' h1 h2)
theorem wpList_append_row_want {P : Program} {w : World} {ops : Array Oper} {rest : List Oper} {o : Oper} {a : Act} {Q : Exit → Act → World → Prop} (hw : Region.wanted o (yielded ops a.tmps) = true) (s x : Operand) (t : TypeId)
    (ho : o.op = .call { callee := .builtin .append, args := #[s, x], argTypes := #[t, t] })
    (base : Nat) (e : TypeId) (i : TypeInfo) (z : Value) (size bytes : Nat) (ht : P.underlying t = some (.slice e)) (hi : P.info? e = some i) (hz : i.zero = some z)
    (hsize : i.size = size) (hby : i.bytes = bytes) (hzs : z.cells.size = size) (hsz : 0 < size)
    (v : Value) (n : Nat) (xs : List Value) (hs : a.eval s = v) (hown : w.ownsRow base e size v n xs)
    (ad : Option Addr) (m c : Nat) (news : List Value) (hx : a.eval x = .slice ad m c) (hl : news.length = m * size) (hnews : RowAt w ad news) (hnone : ad = none → c = 0) (hmc : m ≤ c) (h1 : ∀ u ∈ news, u.oneCell' = true)
    (h63 : n + m ≤ maxLen) (hbytes : (n + m) * bytes ≤ 140737488355328) (hbase : base ≤ w.heap.size)
    (h : ∀ v' w', w'.ownsRow base e size v' (n + m) (xs ++ news) → w.grownBy w' v.ownBlock → wpList P ops Q rest (a.put o.dst v') w') : wpList P ops Q (o :: rest) a w := by
  refine BigFrame.wpList_want hw fun K hK => ?_
  cases ad with
  | none =>
    have hc := hnone rfl
    subst hc
    obtain rfl : m = 0 := by omega
    obtain rfl : news = [] := List.length_eq_zero_iff.1 (by omega)
    have hrun := run_append_owned_none (P := P) (w := w) base t o.type e i size ht hi v n xs hown
    unfold Oper.wp
    simp [execOp, ho, resolve, invoke, builtin, hs, hx, hrun, Result.andThen]
    exact hK _ _ (h v w (by rw [List.append_nil]; exact hown) (grown_refl _ _))
  | some ad => exact wp_append_own w s x t ho base e i z size bytes ht hi hz hsize hby hzs hsz v n xs hs hown ad m c news hx hl hnews.add h1 h63 hbytes hbase (fun v' w' h1 h2 _ => hK _ _ (h v' w' h1 h2))
theorem bytes_none (w : World) : BytesAt w (.slice none 0 0) [] := ⟨none, 0, rfl, Nat.le_refl _, by unfold maxLen; omega, Or.inl rfl, fun _ => rfl⟩
end Go.Proofs.YtibopjjicfiimaaGreatDoor
namespace Go.Proofs.YtibopjjicfiimaaGreatDoor
open Go.RowKit
set_option linter.unusedVariables false
def wordVals (l : List Nat) : List Value := l.map fun (x : Nat) => Value.int .u64 (Int.ofNat x)
def SmallW (l : List Nat) : Prop := ∀ x, x ∈ l → x < 18446744073709551616
/-- a slice that reads as these words -/
def WordsAt (w : World) (v : Value) (l : List Nat) : Prop := ∃ a cap, v = .slice a l.length cap ∧ l.length ≤ cap ∧ cap ≤ maxLen ∧ RowAt w a (wordVals l) ∧ (a = none → cap = 0)
theorem wordVals_length (l : List Nat) : (wordVals l).length = l.length := by simp [wordVals]
theorem WordsAt.later {w w' : World} {v : Value} {l : List Nat} (h : WordsAt w v l) (hb : Below w.heap.size w w') : WordsAt w' v l := by
  obtain ⟨a, cap, hv, h1, h2, h3, h4⟩ := h
  exact ⟨a, cap, hv, h1, h2, h3.later hb, h4⟩
theorem words_none (w : World) : WordsAt w (.slice none 0 0) [] := ⟨none, 0, rfl, Nat.le_refl _, by unfold maxLen; omega, Or.inl rfl, fun _ => rfl⟩
theorem words_of_owns {w : World} {B e n : Nat} {v : Value} {l : List Nat} (h : w.ownsRow B e 1 v n (wordVals l)) : WordsAt w v l := by
  obtain ⟨a, cap, hv, h1, h2, h3, h5⟩ := row_of_owns_any h
  have hn : n = l.length := by have := h.1; rw [wordVals_length] at this; omega
  subst hn
  exact ⟨a, cap, hv, h1, h2, h3, h5⟩
theorem WordsAt.get {w : World} {v : Value} {l : List Nat} (h : WordsAt w v l) : ∃ a cap, v = .slice a l.length cap ∧ l.length ≤ cap ∧ cap ≤ maxLen ∧
    ∀ i (hi : i < l.length), ∃ b o, a = some ⟨b, o, none⟩ ∧ b < w.heap.size ∧ w.cell? ⟨b, o + i, none⟩ = some (.int .u64 (l[i] : Int)) := by
  obtain ⟨a, cap, hv, h1, h2, h3, h4⟩ := h
  refine ⟨a, cap, hv, h1, h2, fun i hi => ?_⟩
  rcases h3 with h3 | ⟨b, o, ha, hc⟩
  · have := wordVals_length l; rw [h3] at this; simp at this; omega
  · have hcc := hc i (by rw [wordVals_length]; exact hi)
    have e : (wordVals l)[i]? = some (.int .u64 (l[i] : Int)) := by simp [wordVals, hi]
    rw [e] at hcc
    exact ⟨b, o, ha, lt_of_cell hcc, hcc⟩
end Go.Proofs.YtibopjjicfiimaaGreatDoor
namespace Go.Proofs.YtibopjjicfiimaaGreatDoor
open Go.RowKit
set_option linter.unusedVariables false
/-- an object: its place, its class, its kind, its words, its bytes (its size is three) -/
structure RO where
  at_ : Nat
  cls : Nat
  kind : Int
  words : List Nat
  bytes : List UInt8
/-- its block lies from C on -/
def Up (C : Nat) (v : Value) : Prop := ∀ b o n c, v = .slice (some ⟨b, o, none⟩) n c → C ≤ b
theorem up_none (C n c : Nat) : Up C (.slice none n c) := fun b o n c h => by simp at h
theorem up_some {C b o n c : Nat} (h : C ≤ b) : Up C (.slice (some ⟨b, o, none⟩) n c) := fun b' o' n' c' e => by simp at e; omega
theorem up_owns {w : World} {B C e size n : Nat} {v : Value} {xs : List Value} (h : w.ownsRow B e size v n xs) (hB : C ≤ B) : Up C v := by
  rcases h.2 with ⟨hv, -⟩ | ⟨g, cap, cur, hv, hb, -⟩
  · rw [hv]; exact up_none C 0 0
  · rw [hv]; exact up_some (Nat.le_trans hB hb)
theorem RowAt.stays {C n c : Nat} {w w' : World} {a : Option Addr} {xs : List Value} (h : RowAt w a xs) (hu : Up C (.slice a n c)) (ho : ∀ q, C ≤ q → q < w.heap.size → w'.heap[q]? = w.heap[q]?) : RowAt w' a xs := by
  rcases h with h | ⟨b, o, ha, hc⟩
  · exact Or.inl h
  · subst ha
    refine Or.inr ⟨b, o, rfl, fun j hj => ?_⟩
    have hj' := hc j hj
    have hlt := lt_of_cell (hj'.trans (List.getElem?_eq_getElem hj))
    rw [← hj']
    exact World.cell?_of_block (ho b (hu b o n c rfl) hlt)
theorem WordsAt.stays {C : Nat} {w w' : World} {v : Value} {l : List Nat} (h : WordsAt w v l) (hu : Up C v) (ho : ∀ q, C ≤ q → q < w.heap.size → w'.heap[q]? = w.heap[q]?) : WordsAt w' v l := by
  obtain ⟨a, cap, rfl, h1, h2, h3, h4⟩ := h
  exact ⟨a, cap, rfl, h1, h2, h3.stays hu ho, h4⟩
theorem BytesAt.stays {C : Nat} {w w' : World} {v : Value} {l : List UInt8} (h : BytesAt w v l) (hu : Up C v) (ho : ∀ q, C ≤ q → q < w.heap.size → w'.heap[q]? = w.heap[q]?) : BytesAt w' v l := by
  obtain ⟨a, cap, rfl, h1, h2, h3, h4⟩ := h
  exact ⟨a, cap, rfl, h1, h2, h3.stays hu ho, h4⟩
/-- these cells are those of these objects -/
def RCells (C : Nat) (w : World) (xs : List Value) (os : List RO) : Prop :=
  xs.length = os.length * 8 ∧ ∀ i o, os[i]? = some o → ∃ wv bv, xs[i * 8]? = some (.int .i64 (o.at_ : Int)) ∧ xs[i * 8 + 1]? = some (.int .u64 (o.cls : Int)) ∧ xs[i * 8 + 2]? = some (.int .i64 o.kind) ∧ xs[i * 8 + 3]? = some (.int .i64 3) ∧
    xs[i * 8 + 4]? = some (.int .u32 0) ∧ xs[i * 8 + 5]? = some (.bool false) ∧ xs[i * 8 + 6]? = some wv ∧ xs[i * 8 + 7]? = some bv ∧ WordsAt w wv o.words ∧ BytesAt w bv o.bytes ∧ Up C wv ∧ Up C bv
theorem RCells.nil (C : Nat) (w : World) : RCells C w [] [] := ⟨rfl, fun i o h => by simp at h⟩
theorem RCells.later {C : Nat} {w w' : World} {xs : List Value} {os : List RO} (h : RCells C w xs os) (hb : Below w.heap.size w w') : RCells C w' xs os :=
  ⟨h.1, fun i o ho => let ⟨wv, bv, a, b, c, d, e, f, g, k, l, m, n⟩ := h.2 i o ho; ⟨wv, bv, a, b, c, d, e, f, g, k, l.later hb, m.later hb, n⟩⟩
theorem RCells.stays {C : Nat} {w w' : World} {xs : List Value} {os : List RO} (h : RCells C w xs os) (hb : ∀ q, C ≤ q → q < w.heap.size → w'.heap[q]? = w.heap[q]?) : RCells C w' xs os :=
  ⟨h.1, fun i o ho => let ⟨wv, bv, a, b, c, d, e, f, g, k, l, m, n⟩ := h.2 i o ho; ⟨wv, bv, a, b, c, d, e, f, g, k, l.stays n.1 hb, m.stays n.2 hb, n⟩⟩
theorem RCells.append {C : Nat} {w : World} {xs ys : List Value} {os ps : List RO} (h : RCells C w xs os) (k : RCells C w ys ps) : RCells C w (xs ++ ys) (os ++ ps) := by
  have hl := h.1
  refine ⟨by rw [List.length_append, List.length_append, h.1, k.1]; omega, fun i o ho => ?_⟩
  by_cases hi : i < os.length
  · rw [List.getElem?_append_left hi] at ho
    obtain ⟨wv, bv, h0, h1, h2, h3, h4, h5, h6, h7, h8, h9⟩ := h.2 i o ho
    refine ⟨wv, bv, ?_, ?_, ?_, ?_, ?_, ?_, ?_, ?_, h8, h9⟩ <;> (rw [List.getElem?_append_left (by omega)]; assumption)
  · rw [List.getElem?_append_right (by omega)] at ho
    obtain ⟨wv, bv, h0, h1, h2, h3, h4, h5, h6, h7, h8, h9⟩ := k.2 _ o ho
    refine ⟨wv, bv, ?_, ?_, ?_, ?_, ?_, ?_, ?_, ?_, h8, h9⟩
    · rw [List.getElem?_append_right (by omega), ← h0]; congr 1; omega
    · rw [List.getElem?_append_right (by omega), ← h1]; congr 1; omega
    · rw [List.getElem?_append_right (by omega), ← h2]; congr 1; omega
    · rw [List.getElem?_append_right (by omega), ← h3]; congr 1; omega
    · rw [List.getElem?_append_right (by omega), ← h4]; congr 1; omega
    · rw [List.getElem?_append_right (by omega), ← h5]; congr 1; omega
    · rw [List.getElem?_append_right (by omega), ← h6]; congr 1; omega
    · rw [List.getElem?_append_right (by omega), ← h7]; congr 1; omega
theorem RCells.one {C : Nat} {w : World} {wv bv : Value} {o : RO} (hw : WordsAt w wv o.words) (hb : BytesAt w bv o.bytes) (hu : Up C wv ∧ Up C bv) : RCells C w [.int .i64 (o.at_ : Int), .int .u64 (o.cls : Int), .int .i64 o.kind, .int .i64 3, .int .u32 0, .bool false, wv, bv] [o] := by
  refine ⟨rfl, fun i o' ho => ?_⟩
  match i, ho with
  | 0, ho => simp at ho; subst ho; exact ⟨wv, bv, rfl, rfl, rfl, rfl, rfl, rfl, rfl, rfl, hw, hb, hu⟩
theorem RCells.ones {C : Nat} {w : World} {xs : List Value} {os : List RO} (h : RCells C w xs os) : ∀ u ∈ xs, u.oneCell' = true := by
  intro u hu
  obtain ⟨j, hj, rfl⟩ := List.getElem_of_mem hu
  have hl := h.1
  have hi : j / 8 < os.length := by omega
  obtain ⟨wv, bv, h0, h1, h2, h3, h4, h5, h6, h7, h8, h9⟩ := h.2 (j / 8) os[j / 8] (List.getElem?_eq_getElem hi)
  have hj' := List.getElem?_eq_getElem hj
  have hr : j = j / 8 * 8 ∨ j = j / 8 * 8 + 1 ∨ j = j / 8 * 8 + 2 ∨ j = j / 8 * 8 + 3 ∨ j = j / 8 * 8 + 4 ∨ j = j / 8 * 8 + 5 ∨ j = j / 8 * 8 + 6 ∨ j = j / 8 * 8 + 7 := by omega
  rcases hr with hr | hr | hr | hr | hr | hr | hr | hr
  · rw [← hr, hj'] at h0; injection h0 with h0; rw [h0]; rfl
  · rw [← hr, hj'] at h1; injection h1 with h1; rw [h1]; rfl
  · rw [← hr, hj'] at h2; injection h2 with h2; rw [h2]; rfl
  · rw [← hr, hj'] at h3; injection h3 with h3; rw [h3]; rfl
  · rw [← hr, hj'] at h4; injection h4 with h4; rw [h4]; rfl
  · rw [← hr, hj'] at h5; injection h5 with h5; rw [h5]; rfl
  · rw [← hr, hj'] at h6; injection h6 with h6; rw [h6]; obtain ⟨a, c, rfl, -⟩ := h8; rfl
  · rw [← hr, hj'] at h7; injection h7 with h7; rw [h7]; obtain ⟨a, c, rfl, -⟩ := h9.1; rfl
/-- a slice that reads as these objects -/
def RObjs (C : Nat) (w : World) (v : Value) (os : List RO) : Prop := ∃ a cap xs, v = .slice a os.length cap ∧ os.length ≤ cap ∧ cap ≤ maxLen ∧ RowAt w a xs ∧ RCells C w xs os ∧ (a = none → cap = 0) ∧ Up C (.slice a os.length cap)
theorem RObjs.later {C : Nat} {w w' : World} {v : Value} {os : List RO} (h : RObjs C w v os) (hb : Below w.heap.size w w') : RObjs C w' v os := by
  obtain ⟨a, cap, xs, hv, h1, h2, h3, h4, h5⟩ := h
  exact ⟨a, cap, xs, hv, h1, h2, h3.later hb, h4.later hb, h5⟩
theorem RObjs.stays {C : Nat} {w w' : World} {v : Value} {os : List RO} (h : RObjs C w v os) (hb : ∀ q, C ≤ q → q < w.heap.size → w'.heap[q]? = w.heap[q]?) : RObjs C w' v os := by
  obtain ⟨a, cap, xs, hv, h1, h2, h3, h4, h5, h6⟩ := h
  exact ⟨a, cap, xs, hv, h1, h2, h3.stays h6 hb, h4.stays hb, h5, h6⟩
theorem robjs_none (C : Nat) (w : World) : RObjs C w (.slice none 0 0) [] := ⟨none, 0, [], rfl, Nat.le_refl _, by unfold maxLen; omega, Or.inl rfl, RCells.nil C w, fun _ => rfl, up_none C 0 0⟩
theorem robjs_of_owns {w : World} {B C e n : Nat} {v : Value} {xs : List Value} {os : List RO} (h : w.ownsRow B e 8 v n xs) (hB : C ≤ B) (hc : RCells C w xs os) : RObjs C w v os := by
  have hu := up_owns h hB
  have hl := h.1
  obtain ⟨a, cap, hv, h1, h2, h3, h5⟩ := row_of_owns_any h
  have hn : n = os.length := by have := hc.1; omega
  subst hn
  subst hv
  exact ⟨a, cap, xs, rfl, h1, h2, h3, hc, h5, hu⟩
/-- what a walk reads of one object -/
theorem RObjs.get {C : Nat} {w : World} {v : Value} {os : List RO} (h : RObjs C w v os) : ∃ a cap, v = .slice a os.length cap ∧ os.length ≤ cap ∧ cap ≤ maxLen ∧
    ∀ i o, os[i]? = some o → ∃ b q wv bv, a = some ⟨b, q, none⟩ ∧ b < w.heap.size ∧ w.cell? ⟨b, q + i * 8, none⟩ = some (.int .i64 (o.at_ : Int)) ∧ w.cell? ⟨b, q + i * 8 + 1, none⟩ = some (.int .u64 (o.cls : Int)) ∧ w.cell? ⟨b, q + i * 8 + 2, none⟩ = some (.int .i64 o.kind) ∧ w.cell? ⟨b, q + i * 8 + 3, none⟩ = some (.int .i64 3) ∧
      w.cell? ⟨b, q + i * 8 + 4, none⟩ = some (.int .u32 0) ∧ w.cell? ⟨b, q + i * 8 + 5, none⟩ = some (.bool false) ∧ w.cell? ⟨b, q + i * 8 + 6, none⟩ = some wv ∧ w.cell? ⟨b, q + i * 8 + 7, none⟩ = some bv ∧ WordsAt w wv o.words ∧ BytesAt w bv o.bytes ∧ Up C wv ∧ Up C bv := by
  obtain ⟨a, cap, xs, hv, h1, h2, h3, h4, h5, -⟩ := h
  refine ⟨a, cap, hv, h1, h2, fun i o ho => ?_⟩
  obtain ⟨wv, bv, c0, c1, c2, c3, c4, c5, c6, c7, c8, c9⟩ := h4.2 i o ho
  have hi : i < os.length := (List.getElem?_eq_some_iff.1 ho).1
  have hl := h4.1
  rcases h3 with h3 | ⟨b, q, ha, hc⟩
  · rw [h3] at hl; simp at hl; omega
  · have e0 := (hc (i * 8) (by omega)).trans c0
    refine ⟨b, q, wv, bv, ha, lt_of_cell e0, e0, ?_, ?_, ?_, ?_, ?_, ?_, ?_, c8, c9⟩
    · rw [Nat.add_assoc]; exact (hc (i * 8 + 1) (by omega)).trans c1
    · rw [Nat.add_assoc]; exact (hc (i * 8 + 2) (by omega)).trans c2
    · rw [Nat.add_assoc]; exact (hc (i * 8 + 3) (by omega)).trans c3
    · rw [Nat.add_assoc]; exact (hc (i * 8 + 4) (by omega)).trans c4
    · rw [Nat.add_assoc]; exact (hc (i * 8 + 5) (by omega)).trans c5
    · rw [Nat.add_assoc]; exact (hc (i * 8 + 6) (by omega)).trans c6
    · rw [Nat.add_assoc]; exact (hc (i * 8 + 7) (by omega)).trans c7
end Go.Proofs.YtibopjjicfiimaaGreatDoor
