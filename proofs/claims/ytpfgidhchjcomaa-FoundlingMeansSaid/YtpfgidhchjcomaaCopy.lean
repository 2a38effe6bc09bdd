/- Bytes of the call's own: copies, joins, comparison. -/
import Derived.Test.YtpfgidhchjcomaaMem
import Derived.Test.YtpfgidhchjcomaaLater
import Derived.Deep.LoopGhost
import Derived.BigGuardPart
import Derived.Lib.Strings
import Derived.Lib.Builder
import Derived.Lib.UnsafeStr
import Derived.Laws.CopyOwn
import Derived.Laws.AppendOwnNone
import Derived.Deep.RegionHeld3
import Derived.Deep.AppendLies
namespace Go.Proofs.Ytpfgidhchjcomaa
open Go.RowKit
theorem byteInfo : (Try.prog.info? 5).map (fun i => (i.zero, i.size, i.bytes)) = some (some (.int .u8 0), 1, 1) := by kernel_rfl
theorem owns_one {w : World} {e : TypeId} {cs : List Value} {n : Nat} (hn : cs.length = n) (hm : n ≤ maxLen) : (w.alloc (.cells cs.toArray e)).ownsRow w.heap.size e 1 (.slice (some ⟨w.heap.size, 0, none⟩) n n) n cs :=
  ⟨by omega, .inr ⟨w.heap.size, n, cs.toArray, rfl, Nat.le_refl _, heap_alloc_new w _, Nat.le_refl _, hm, by simp [hn], by simp [← hn]⟩⟩
/-- a slice of the call's own that holds these bytes -/
def OwnsB (w : World) (B : Nat) (v : Value) (l : List UInt8) : Prop := w.ownsRow B 5 1 v l.length (Lib.byteCells l)
theorem ownsB_of {w : World} {B n : Nat} {v : Value} {xs : List Value} {l : List UInt8} (h : w.ownsRow B 5 1 v n xs) (hx : xs = Lib.byteCells l) : OwnsB w B v l := by
  subst hx
  have hn : n = l.length := by have := h.1; rw [Lib.byteCells_length] at this; omega
  subst hn
  exact h
theorem calls_later_if {P : Program} {f : FuncId} {args : Array Value} {w : World} {x : Lt w} {v : Value}
    (h : ∀ W, Below w.heap.size w W → Calls P f args W fun e w' => e = .returned v ∧ Below W.heap.size W w') : Calls P f args (later w x) fun e w'' => e = .returned v ∧ ∃ y, w'' = later w y :=
  (h _ (later_below w x)).mono fun _ _ ⟨he, hb⟩ => ⟨he, later_of ((later_below w x).trans (hb.mono (later_below w x).size))⟩
/-- a row of a slice that the call owns, whatever its elements' size -/
theorem row_of_owns_any {w : World} {B e size n : Nat} {v : Value} {xs : List Value} (h : w.ownsRow B e size v n xs) : ∃ a cap, v = .slice a n cap ∧ n ≤ cap ∧ cap ≤ maxLen ∧ RowAt w a xs ∧ (a = none → cap = 0) := by
  obtain ⟨hl, h⟩ := h
  rcases h with ⟨hv, h0⟩ | ⟨g, cap, cur, hv, hB, hg, hn, hm, hs, ht⟩
  · subst h0
    exact ⟨none, 0, hv, Nat.le_refl _, by unfold maxLen; omega, Or.inl (List.length_eq_zero_iff.1 (by omega)), fun _ => rfl⟩
  · refine ⟨_, cap, hv, hn, hm, Or.inr ⟨g, 0, rfl, fun j hj => ?_⟩, fun h => by cases h⟩
    have e : w.cell? ⟨g, 0 + j, none⟩ = cur[j]? := by simp [World.cell?, hg]
    rw [e, ← ht, List.getElem?_take, if_pos (by omega)]
    simp
theorem ownsB_shape {w : World} {B : Nat} {v : Value} {l : List UInt8} (h : OwnsB w B v l) : ∃ a c, v = .slice a l.length c := by
  obtain ⟨a, c, hv, -⟩ := row_of_owns_any h
  exact ⟨a, c, hv⟩
theorem grown_of_below {w w' : World} (h : Below w.heap.size w w') : w.grownBy w' none := ⟨h.os, h.tape, h.output, h.size, fun k hk _ => h.block k hk⟩
theorem owns_later {w w' : World} {B e size n : Nat} {v : Value} {xs : List Value} (h : w.ownsRow B e size v n xs) (hb : Below w.heap.size w w') : w'.ownsRow B e size v n xs := by
  refine h.kept (grown_of_below hb) ?_
  cases v.ownBlock with
  | none => exact Or.inl rfl
  | some k => exact Or.inr (by simp)
theorem own_keep {w5 w6 : World} {o : Obj} {v u : Value} {p j : Nat} (hg : (w5.alloc o).grownBy w6 v.ownBlock) (hp : p < w5.heap.size) (hv : ∀ k, v.ownBlock = some k → k ≠ p) (h : w5.cell? ⟨p, j, none⟩ = some u) : w6.cell? ⟨p, j, none⟩ = some u := by
  have e : w6.heap[p]? = (w5.alloc o).heap[p]? := hg.block p (by simp; omega) (fun e => hv p e.symm rfl)
  rw [World.cell?_of_block (w := w5.alloc o) (a := ⟨p, j, none⟩) e]
  rw [World.cell?_alloc_past o p j hp]
  exact h
theorem bytes_take {w : World} {a : Option Addr} {c m : Nat} {l : List UInt8} (h : BytesAt w (.slice a l.length c) l) (hm : m ≤ l.length) : BytesAt w (.slice a m c) (l.take m) := by
  obtain ⟨a', c', hv, h1, h2, h3, h4⟩ := h
  injection hv with ha _ hc
  subst ha hc
  have hlen : (l.take m).length = m := by rw [List.length_take]; omega
  refine ⟨a, c, by rw [hlen], by omega, h2, ?_, h4⟩
  rcases h3 with h3 | ⟨b, o, hab, hcell⟩
  · refine Or.inl ?_
    have hl0 : l = [] := by simpa [Lib.byteCells] using h3
    subst hl0; simp [Lib.byteCells]
  · refine Or.inr ⟨b, o, hab, fun j hj => ?_⟩
    rw [Lib.byteCells_length, hlen] at hj
    rw [hcell j (by rw [Lib.byteCells_length]; omega)]
    simp only [Lib.byteCells, List.map_take]
    rw [List.getElem?_take, if_pos hj]
theorem owns_weak {w : World} {B B' : Nat} {v : Value} {l l' : List UInt8} (h : OwnsB w B v l) (hl : l = l') (hB : B' ≤ B) : OwnsB w B' v l' := by
  subst hl
  obtain ⟨h1, h2⟩ := h
  refine ⟨h1, ?_⟩
  rcases h2 with h2 | ⟨g, cap, cur, a, b, c⟩
  · exact Or.inl h2
  · exact Or.inr ⟨g, cap, cur, a, Nat.le_trans hB b, c⟩
theorem grown_refl (w : World) (r : Option Nat) : w.grownBy w r := ⟨rfl, rfl, rfl, Nat.le_refl _, fun _ _ _ => rfl⟩
theorem wpList_append_row {P : Program} {w : World} {ops : Array Oper} {rest : List Oper} {o : Oper} {a : Act} {Q : Exit → Act → World → Prop} (hgd : o.guard = none) (s x : Operand) (t : TypeId)
    (ho : o.op = .call { callee := .builtin .append, args := #[s, x], argTypes := #[t, t] })
    (base : Nat) (e : TypeId) (i : TypeInfo) (z : Value) (size bytes : Nat) (ht : P.underlying t = some (.slice e)) (hi : P.info? e = some i) (hz : i.zero = some z)
    (hsize : i.size = size) (hby : i.bytes = bytes) (hzs : z.cells.size = size) (hsz : 0 < size)
    (v : Value) (n : Nat) (xs : List Value) (hs : a.eval s = v) (hown : w.ownsRow base e size v n xs)
    (ad : Option Addr) (m c : Nat) (news : List Value) (hx : a.eval x = .slice ad m c) (hl : news.length = m * size) (hnews : RowAt w ad news) (hnone : ad = none → c = 0) (hmc : m ≤ c) (h1 : ∀ u ∈ news, u.oneCell' = true)
    (h63 : n + m ≤ maxLen) (hbytes : (n + m) * bytes ≤ 140737488355328) (hbase : base ≤ w.heap.size)
    (h : ∀ v' w', w'.ownsRow base e size v' (n + m) (xs ++ news) → w.grownBy w' v.ownBlock → wpList P ops Q rest (a.put o.dst v') w') : wpList P ops Q (o :: rest) a w := by
  cases ad with
  | none =>
    have hc := hnone rfl
    subst hc
    obtain rfl : m = 0 := by omega
    obtain rfl : news = [] := List.length_eq_zero_iff.1 (by omega)
    refine wpList_append_own_none hgd s x t ho base e i size ht hi v n xs hs hown hx (h v w ?_ (grown_refl _ _))
    rw [List.append_nil]; exact hown
  | some ad => exact wpList_append_own w hgd s x t ho base e i z size bytes ht hi hz hsize hby hzs hsz v n xs hs hown ad m c news hx hl hnews.add h1 h63 hbytes hbase (fun v' w' h1 h2 _ => h v' w' h1 h2)
theorem wpList_append_row_want {P : Program} {w : World} {ops : Array Oper} {rest : List Oper} {o : Oper} {a : Act} {Q : Exit → Act → World → Prop} (hw : Region.wanted o (yielded ops a.tmps) = true) (s x : Operand) (t : TypeId)
    (ho : o.op = .call { callee := .builtin .append, args := #[s, x], argTypes := #[t, t] })
    (base : Nat) (e : TypeId) (i : TypeInfo) (z : Value) (size bytes : Nat) (ht : P.underlying t = some (.slice e)) (hi : P.info? e = some i) (hz : i.zero = some z)
    (hsize : i.size = size) (hby : i.bytes = bytes) (hzs : z.cells.size = size) (hsz : 0 < size)
    (v : Value) (n : Nat) (xs : List Value) (hs : a.eval s = v) (hown : w.ownsRow base e size v n xs)
    (ad : Option Addr) (m c : Nat) (news : List Value) (hx : a.eval x = .slice ad m c) (hl : news.length = m * size) (hnews : RowAt w ad news) (hnone : ad = none → c = 0) (hmc : m ≤ c) (h1 : ∀ u ∈ news, u.oneCell' = true)
    (h63 : n + m ≤ maxLen) (hbytes : (n + m) * bytes ≤ 140737488355328) (hbase : base ≤ w.heap.size)
    (h : ∀ v' w', w'.ownsRow base e size v' (n + m) (xs ++ news) → w.grownBy w' v.ownBlock → wpList P ops Q rest (a.put o.dst v') w') : wpList P ops Q (o :: rest) a w := by
  refine BigFrame.wpList_want hw fun K hK => ?_
  cases ad with
  | none =>
    have hc := hnone rfl
    subst hc
    obtain rfl : m = 0 := by omega
    obtain rfl : news = [] := List.length_eq_zero_iff.1 (by omega)
    have hrun := run_append_owned_none (P := P) (w := w) base t o.type e i size ht hi v n xs hown
    unfold Oper.wp
    simp [execOp, ho, resolve, invoke, builtin, hs, hx, hrun, Result.andThen]
    exact hK _ _ (h v w (by rw [List.append_nil]; exact hown) (grown_refl _ _))
  | some ad => exact wp_append_own w s x t ho base e i z size bytes ht hi hz hsize hby hzs hsz v n xs hs hown ad m c news hx hl hnews.add h1 h63 hbytes hbase (fun v' w' h1 h2 _ => hK _ _ (h v' w' h1 h2))
theorem bytes_none (w : World) : BytesAt w (.slice none 0 0) [] := ⟨none, 0, rfl, Nat.le_refl _, by unfold maxLen; omega, Or.inl rfl, fun _ => rfl⟩
end Go.Proofs.Ytpfgidhchjcomaa
