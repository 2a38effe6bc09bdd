/- Trees of nodes in memory: rows of strings, rows of nodes, what a row of the call's own leaves of them. -/
import Derived.Test.YtpfgidhchjcomaaCopy
import Derived.Deep.Upon
import Derived.Deep.AppendSrc
namespace Go.Proofs.Ytpfgidhchjcomaa
open Go.RowKit
set_option linter.unusedVariables false
/-- a part of a method -/
inductive Nd where
  | mk (kind : Int) (name : ByteArray) (num : Int) (kids : List Nd) (names : List ByteArray) (at_ : Int)
namespace Nd
def kind : Nd → Int | mk k _ _ _ _ _ => k
def name : Nd → ByteArray | mk _ s _ _ _ _ => s
def num : Nd → Int | mk _ _ n _ _ _ => n
def kids : Nd → List Nd | mk _ _ _ l _ _ => l
def names : Nd → List ByteArray | mk _ _ _ _ l _ => l
def at_ : Nd → Int | mk _ _ _ _ _ p => p
theorem eta (x : Nd) : Nd.mk x.kind x.name x.num x.kids x.names x.at_ = x := by cases x; rfl
end Nd
def I64 (n : Int) : Prop := -9223372036854775808 ≤ n ∧ n < 9223372036854775808
/-- cells from an address on, none of them in block x -/
def RowX (x : Nat → Prop) (w : World) (a : Option Addr) (cs : List Value) : Prop := cs = [] ∨ ∃ b o, a = some ⟨b, o, none⟩ ∧ x b ∧ ∀ j, j < cs.length → w.cell? ⟨b, o + j, none⟩ = cs[j]?
theorem RowX.of {w : World} {a : Option Addr} {cs : List Value} (h : RowAt w a cs) : RowX (fun _ => True) w a cs := by
  rcases h with h | ⟨b, o, h1, h2⟩
  · exact Or.inl h
  · exact Or.inr ⟨b, o, h1, trivial, h2⟩
theorem RowX.row {x : Nat → Prop} {w : World} {a : Option Addr} {cs : List Value} (h : RowX x w a cs) : RowAt w a cs := by
  rcases h with h | ⟨b, o, h1, -, h2⟩
  · exact Or.inl h
  · exact Or.inr ⟨b, o, h1, h2⟩
theorem RowX.keep {x : Nat → Prop} {w w' : World} {a : Option Addr} {cs : List Value} (h : RowX x w a cs) (hb : ∀ k, k < w.heap.size → x k → w'.heap[k]? = w.heap[k]?) : RowX x w' a cs := by
  rcases h with h | ⟨b, o, h1, hx, h2⟩
  · exact Or.inl h
  · by_cases hc : cs = []
    · exact Or.inl hc
    · refine Or.inr ⟨b, o, h1, hx, fun j hj => ?_⟩
      have h0 := h2 0 (List.length_pos_iff.2 hc)
      rw [List.getElem?_eq_getElem (List.length_pos_iff.2 hc)] at h0
      rw [← h2 j hj]
      exact World.cell?_of_block (a := ⟨b, o + j, none⟩) (hb b (lt_of_cell h0) hx)
theorem RowX.turn {x y : Nat → Prop} {w : World} {a : Option Addr} {cs : List Value} (h : RowX x w a cs) (hy : ∀ b, b < w.heap.size → x b → y b) : RowX y w a cs := by
  rcases h with h | ⟨b, o, h1, hx, h2⟩
  · exact Or.inl h
  · by_cases hc : cs = []
    · exact Or.inl hc
    · have h0 := h2 0 (List.length_pos_iff.2 hc)
      rw [List.getElem?_eq_getElem (List.length_pos_iff.2 hc)] at h0
      exact Or.inr ⟨b, o, h1, hy b (lt_of_cell h0) hx, h2⟩
/-- a slice that reads as these strings -/
def StrsX (x : Nat → Prop) (w : World) (v : Value) (l : List ByteArray) : Prop := ∃ a cap, v = .slice a l.length cap ∧ l.length ≤ cap ∧ cap ≤ maxLen ∧ (a = none → cap = 0) ∧ RowX x w a (l.map Value.string) ∧ ∀ s, s ∈ l → s.size ≤ maxLen
theorem StrsX.keep {x : Nat → Prop} {w w' : World} {v : Value} {l : List ByteArray} (h : StrsX x w v l) (hb : ∀ k, k < w.heap.size → x k → w'.heap[k]? = w.heap[k]?) : StrsX x w' v l := by
  obtain ⟨a, cap, hv, h1, h2, h3, h4, h5⟩ := h
  exact ⟨a, cap, hv, h1, h2, h3, h4.keep hb, h5⟩
theorem StrsX.turn {x y : Nat → Prop} {w : World} {v : Value} {l : List ByteArray} (h : StrsX x w v l) (hy : ∀ b, b < w.heap.size → x b → y b) : StrsX y w v l := by
  obtain ⟨a, cap, hv, h1, h2, h3, h4, h5⟩ := h
  exact ⟨a, cap, hv, h1, h2, h3, h4.turn hy, h5⟩
theorem StrsX.later {x : Nat → Prop} {w w' : World} {v : Value} {l : List ByteArray} (h : StrsX x w v l) (hb : Below w.heap.size w w') : StrsX x w' v l := h.keep fun k hk _ => hb.block k hk
theorem strs_nil (x : Nat → Prop) (w : World) : StrsX x w (.slice none 0 0) [] := ⟨none, 0, rfl, Nat.le_refl _, by unfold maxLen; omega, fun _ => rfl, Or.inl rfl, fun s hs => by cases hs⟩
/-- a node's own cells -/
def ndC (x : Nd) (kv nv : Value) : List Value := [.int .i64 x.kind, .string x.name, .int .i64 x.num, kv, nv, .int .i64 x.at_]
/-- a node's numbers and its name may be -/
def NdOk (x : Nd) : Prop := I64 x.kind ∧ I64 x.num ∧ I64 x.at_ ∧ x.name.size ≤ maxLen
/-- A SLICE THAT READS AS THESE NODES, of at most d within one another; none of its rows, nor of theirs, lies in block x -/
def NodesX (x : Nat → Prop) : Nat → World → Value → List Nd → Prop
  | 0, w, v, l => l = [] ∧ ∃ a cap, v = .slice a 0 cap ∧ cap ≤ maxLen ∧ (a = none → cap = 0)
  | d + 1, w, v, l => ∃ a cap, v = .slice a l.length cap ∧ l.length ≤ cap ∧ cap ≤ maxLen ∧ (a = none → cap = 0) ∧
      ∀ i n, l[i]? = some n → ∃ b o kv nv, a = some ⟨b, o, none⟩ ∧ x b ∧ (∀ j, j < 6 → w.cell? ⟨b, o + i * 6 + j, none⟩ = (ndC n kv nv)[j]?) ∧ NodesX x d w kv n.kids ∧ StrsX x w nv n.names ∧ NdOk n
theorem NodesX.shape {x : Nat → Prop} {d : Nat} {w : World} {v : Value} {l : List Nd} (h : NodesX x d w v l) : ∃ a cap, v = .slice a l.length cap ∧ l.length ≤ cap ∧ cap ≤ maxLen ∧ (a = none → cap = 0) := by
  cases d with
  | zero =>
    obtain ⟨rfl, a, cap, hv, h1, h2⟩ := h
    exact ⟨a, cap, hv, Nat.zero_le _, h1, h2⟩
  | succ d =>
    obtain ⟨a, cap, hv, h1, h2, h3, -⟩ := h
    exact ⟨a, cap, hv, h1, h2, h3⟩
theorem NodesX.keep {x : Nat → Prop} {w w' : World} (hb : ∀ k, k < w.heap.size → x k → w'.heap[k]? = w.heap[k]?) : ∀ {d : Nat} {v : Value} {l : List Nd}, NodesX x d w v l → NodesX x d w' v l
  | 0, v, l, h => h
  | d + 1, v, l, ⟨a, cap, hv, h1, h2, h3, h4⟩ => ⟨a, cap, hv, h1, h2, h3, fun i n hn => by
    obtain ⟨b, o, kv, nv, ha, hx, hc, hk, hs, ho⟩ := h4 i n hn
    have hl : b < w.heap.size := lt_of_cell (hc 0 (by omega))
    exact ⟨b, o, kv, nv, ha, hx, fun j hj => (World.cell?_of_block (a := ⟨b, o + i * 6 + j, none⟩) (hb b hl hx)).trans (hc j hj), NodesX.keep hb hk, hs.keep hb, ho⟩⟩
theorem NodesX.turn {x y : Nat → Prop} {w : World} (hy : ∀ b, b < w.heap.size → x b → y b) : ∀ {d : Nat} {v : Value} {l : List Nd}, NodesX x d w v l → NodesX y d w v l
  | 0, v, l, h => h
  | d + 1, v, l, ⟨a, cap, hv, h1, h2, h3, h4⟩ => ⟨a, cap, hv, h1, h2, h3, fun i n hn => by
    obtain ⟨b, o, kv, nv, ha, hx, hc, hk, hs, ho⟩ := h4 i n hn
    have hl : b < w.heap.size := lt_of_cell (hc 0 (by omega))
    exact ⟨b, o, kv, nv, ha, hy b hl hx, hc, NodesX.turn hy hk, hs.turn hy, ho⟩⟩
theorem NodesX.later {x : Nat → Prop} {w w' : World} {d : Nat} {v : Value} {l : List Nd} (h : NodesX x d w v l) (hb : Below w.heap.size w w') : NodesX x d w' v l := h.keep fun k hk _ => hb.block k hk
theorem RowX.weak {x y : Nat → Prop} {w : World} {a : Option Addr} {cs : List Value} (h : RowX x w a cs) (hy : ∀ b, x b → y b) : RowX y w a cs := h.turn fun b _ hb => hy b hb
theorem StrsX.weak {x y : Nat → Prop} {w : World} {v : Value} {l : List ByteArray} (h : StrsX x w v l) (hy : ∀ b, x b → y b) : StrsX y w v l := h.turn fun b _ hb => hy b hb
theorem NodesX.weak {x y : Nat → Prop} {w : World} {d : Nat} {v : Value} {l : List Nd} (h : NodesX x d w v l) (hy : ∀ b, x b → y b) : NodesX y d w v l := h.turn fun b _ hb => hy b hb
theorem nodes_nil (x : Nat → Prop) (d : Nat) (w : World) : NodesX x d w (.slice none 0 0) [] := by
  cases d with
  | zero => exact ⟨rfl, none, 0, rfl, by unfold maxLen; omega, fun _ => rfl⟩
  | succ d => exact ⟨none, 0, rfl, Nat.le_refl _, by unfold maxLen; omega, fun _ => rfl, fun i n h => by simp at h⟩
/-- behind an append to a row of the call's own: what does not lie in the row is as it was; where the new row lies -/
theorem turn_push {w w' : World} {v v' : Value} (hg : w.grownBy w' v.ownBlock) (hc : v'.ownBlock = v.ownBlock ∨ ∃ g, v'.ownBlock = some g ∧ w.heap.size ≤ g) :
    (∀ k, k < w.heap.size → some k ≠ v.ownBlock → w'.heap[k]? = w.heap[k]?) ∧ ∀ b, b < w.heap.size → some b ≠ v.ownBlock → some b ≠ v'.ownBlock := by
  refine ⟨fun k hk hne => hg.block k hk hne, fun b hb hne => ?_⟩
  rcases hc with h | ⟨g, h, hg'⟩
  · rw [h]; exact hne
  · rw [h]; intro e; injection e with e; omega
end Go.Proofs.Ytpfgidhchjcomaa
