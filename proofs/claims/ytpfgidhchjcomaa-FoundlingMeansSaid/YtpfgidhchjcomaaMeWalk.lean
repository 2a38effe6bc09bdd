/- The law's own walk. -/
import Derived.Test.YtpfgidhchjcomaaMeRegT
import Derived.Test.YtpfgidhchjcomaaMeLawR
import Derived.Test.YtpfgidhchjcomaaMeSame
namespace Go.Proofs.Ytpfgidhchjcomaa.means
open Go.RowKit
set_option linter.unusedVariables false
def fooB : ByteArray := ⟨#[102, 111, 111, 58]⟩
def xB : ByteArray := ⟨#[120]⟩
def oneN : Nd := .mk 5 xB 0 [] [] 0
theorem one_res : resolveM [] [] 0 fooB [xB] [] 0 [oneN] = some ([.mk 10 noName 0 0 0 []], 1) := by kernel_rfl
/-- the fixed method's parts in memory -/
theorem one_mem {w : World} {b1 b2 : Nat} (h1 : w.heap[b1]? = some (.cells #[.string xB] 9 (0, 0))) (h2 : w.heap[b2]? = some (.cells #[.int .i64 5, .string xB, .int .i64 0, .slice none 0 0, .slice none 0 0, .int .i64 0] 30 (0, 0))) :
    StrsX (fun _ => True) w (.slice (some ⟨b1, 0, none⟩) 1 1) [xB] ∧ NodesX (fun _ => True) 1 w (.slice (some ⟨b2, 0, none⟩) 1 1) [oneN] := by
  refine ⟨⟨_, 1, rfl, Nat.le_refl _, by unfold maxLen; omega, fun h => (by cases h), Or.inr ⟨b1, 0, rfl, trivial, fun j hj => ?_⟩, fun s hs => ?_⟩, ⟨_, 1, rfl, Nat.le_refl _, by unfold maxLen; omega, fun h => (by cases h), fun i n hn => ?_⟩⟩
  · obtain rfl : j = 0 := by simp at hj; omega
    exact cell_of_row w b1 0 _ _ _ h1
  · obtain rfl : s = xB := by simpa using hs
    show 1 ≤ maxLen
    unfold maxLen
    omega
  · have hi : i = 0 := by
      have := (List.getElem?_eq_some_iff.1 hn).1
      simp at this
      omega
    subst hi
    injection hn with hn
    subst hn
    refine ⟨b2, 0, _, _, rfl, trivial, fun j hj => ?_, ⟨rfl, none, 0, rfl, by unfold maxLen; omega, fun _ => rfl⟩, strs_nil _ _, ?_⟩
    · rw [Nat.zero_mul, Nat.add_zero, Nat.zero_add]
      rcases (show j = 0 ∨ j = 1 ∨ j = 2 ∨ j = 3 ∨ j = 4 ∨ j = 5 by omega) with rfl | rfl | rfl | rfl | rfl | rfl <;> exact cell_of_row w b2 _ _ _ _ h2
    · exact ⟨by unfold I64; show _ ≤ (5 : Int) ∧ (5 : Int) < _; omega, by unfold I64; show _ ≤ (0 : Int) ∧ (0 : Int) < _; omega, by unfold I64; show _ ≤ (0 : Int) ∧ (0 : Int) < _; omega, by show 1 ≤ maxLen; unfold maxLen; omega⟩
theorem own_str {w : World} {E base : Nat} {T : TypeId} {c : Value} (h : w.heap[E]? = some (.cells #[c] T (0, 0))) (hb : base ≤ E) : w.ownsRow base T 1 (.slice (some ⟨E, 0, none⟩) 1 1) 1 [c] :=
  ⟨rfl, Or.inr ⟨E, 1, #[c], rfl, hb, h, Nat.le_refl _, by unfold maxLen; omega, rfl, rfl⟩⟩
theorem strs_one {w : World} {E : Nat} {s : ByteArray} (h : w.heap[E]? = some (.cells #[.string s] 9 (0, 0))) (hs : s.size ≤ maxLen) : StrsX (fun b => b = E) w (.slice (some ⟨E, 0, none⟩) 1 1) [s] :=
  ⟨_, 1, rfl, Nat.le_refl _, by unfold maxLen; omega, fun h => (by cases h), Or.inr ⟨E, 0, rfl, rfl, fun j hj => by
    obtain rfl : j = 0 := by simp at hj; omega
    exact cell_of_row w E 0 _ _ _ h⟩, fun y hy => by
    obtain rfl : y = s := by simpa using hy
    exact hs⟩
theorem resolve_check {F G : List ByteArray} {d : Nat} {nm : ByteArray} {ps ts : List ByteArray} {pr : Int} {l : List Nd} {q : List It × Nat} (h : resolveM F G d nm ps ts pr l = some q) : checkM d nm ps ts pr l = 0 := by
  by_cases hc : checkM d nm ps ts pr l = 0
  · exact hc
  · unfold resolveM at h
    rw [if_neg hc] at h
    cases h
theorem strs_cell {x : Nat → Prop} {w : World} {a : Option Addr} {c : Nat} {l : List ByteArray} (h : StrsX x w (.slice a l.length c) l) (i : Nat) (hi : i < l.length) : ∃ b o, a = some ⟨b, o, none⟩ ∧ w.cell? ⟨b, o + i, none⟩ = some (.string l[i]) := by
  obtain ⟨a', c', hv, -, -, -, h4, -⟩ := h
  injection hv with e1 e2 e3
  subst e1
  rcases h4 with h4 | ⟨b, o, h5, -, h6⟩
  · have : l = [] := by simpa using h4
    subst this
    cases hi
  · refine ⟨b, o, h5, ?_⟩
    rw [h6 i (by simpa using hi)]
    simp [hi]
theorem nds_turn {d : Nat} {w w' : World} {v v' sv : Value} {l : List Nd} (h : NodesX (fun b => some b ≠ v.ownBlock) d w sv l) (hg : w.grownBy w' v.ownBlock) (hc : v'.ownBlock = v.ownBlock ∨ ∃ g, v'.ownBlock = some g ∧ w.heap.size ≤ g) : NodesX (fun b => some b ≠ v'.ownBlock) d w' sv l := by
  obtain ⟨t1, t2⟩ := turn_push hg hc
  exact ((h.turn (y := fun b => some b ≠ v.ownBlock ∧ some b ≠ v'.ownBlock) fun b hb hx => ⟨hx, t2 b hb hx⟩).keep fun k hk hx => t1 k hk hx.1).weak fun b hb => hb.2
theorem strs_turn {w w' : World} {v v' sv : Value} {l : List ByteArray} (h : StrsX (fun b => some b ≠ v.ownBlock) w sv l) (hg : w.grownBy w' v.ownBlock) (hc : v'.ownBlock = v.ownBlock ∨ ∃ g, v'.ownBlock = some g ∧ w.heap.size ≤ g) : StrsX (fun b => some b ≠ v'.ownBlock) w' sv l := by
  obtain ⟨t1, t2⟩ := turn_push hg hc
  exact ((h.turn (y := fun b => some b ≠ v.ownBlock ∧ some b ≠ v'.ownBlock) fun b hb hx => ⟨hx, t2 b hb hx⟩).keep fun k hk hx => t1 k hk hx.1).weak fun b hb => hb.2
def flatN (l : List Nd) : List ByteArray := l.flatMap fun n => n.name :: n.names
theorem flatN_take {l : List Nd} {i : Nat} {n : Nd} (h : l[i]? = some n) : flatN (l.take (i + 1)) = flatN (l.take i) ++ (n.name :: n.names) := by
  unfold flatN
  rw [List.take_add_one, h]
  simp
theorem flatN_len : ∀ (l : List Nd), (∀ n, n ∈ l → n.names.length ≤ 9) → (flatN l).length ≤ l.length * 10
  | [], _ => Nat.le_refl _
  | n :: l, h => by
    have h1 := flatN_len l fun y hy => h y (List.mem_cons_of_mem _ hy)
    have h2 := h n List.mem_cons_self
    unfold flatN at h1 ⊢
    rw [List.flatMap_cons]
    simp only [List.length_append, List.length_cons]
    omega
theorem flatN_size {l : List Nd} (h : ∀ n, n ∈ l → n.name.size ≤ 5000 ∧ ∀ s, s ∈ n.names → s.size ≤ 64) : ∀ s, s ∈ flatN l → s.size ≤ 5000 := by
  intro s hs
  unfold flatN at hs
  obtain ⟨n, hn, hs⟩ := List.mem_flatMap.1 hs
  obtain ⟨h1, h2⟩ := h n hn
  rcases List.mem_cons.1 hs with rfl | hs
  · exact h1
  · have := h2 s hs; omega
set_option maxRecDepth 100000 in
set_option maxHeartbeats 8000000 in
theorem walk (D : Nat) (nm : ByteArray) (pv tv : Value) (ps ts : List ByteArray) (pr : Int) (v fv gv : Value) (at_ : Int) (l : List Nd) (F G : List ByteArray) (w : World) (hp : StrsX (· < w.heap.size) w pv ps) (ht : StrsX (· < w.heap.size) w tv ts) (h : NodesX (· < w.heap.size) D w v l) (hF : StrsX (· < w.heap.size) w fv F) (hG : StrsX (· < w.heap.size) w gv G) :
    Calls Try.prog 3 #[mtV nm pv tv pr v at_, .agg #[fv, gv]] w fun e w' => e = .returned (.bool true) ∧ Below w.heap.size w w' := by
  obtain ⟨pa, pc, rfl, -⟩ := id hp
  obtain ⟨ta, tc, rfl, -⟩ := id ht
  obtain ⟨va, vc, rfl, -⟩ := id h.shape
  obtain ⟨fa, fc, rfl, -⟩ := id hF
  obtain ⟨ga, gc, rfl, -⟩ := id hG
  have HP := Lib.hid hp
  have HT := Lib.hid ht
  have HN := Lib.hid h
  have HF := Lib.hid hF
  have HG := Lib.hid hG
  clear hp ht h hF hG
  unfold mtV
  go_enter Try.func3, Try.ntmps3
  go_upto_region 2 with fail
  have hbA : Below w.heap.size w (((((w.alloc (.cells #[.string nm, .slice pa ps.length pc, .slice ta ts.length tc, .int .i64 pr, .slice va l.length vc, .int .i64 at_] 25)).alloc (.cells #[.slice fa F.length fc, .slice ga G.length gc] 27)).alloc (.cells #[.string ⟨#[120]⟩] 9)).alloc (.cells #[.int .i64 5, .string ⟨#[120]⟩, .int .i64 0, .slice none 0 0, .slice none 0 0, .int .i64 0] 30)).alloc (.cells #[.string ⟨#[102, 111, 111, 58]⟩, .slice (some ⟨w.heap.size + 1 + 1, 0, none⟩) 1 1, .slice none 0 0, .int .i64 0, .slice (some ⟨w.heap.size + 1 + 1 + 1, 0, none⟩) 1 1, .int .i64 0] 32)) := (((((Below.refl _ _).alloc (Nat.le_refl _) _).alloc (by simp) _).alloc (by first | (simp; done) | (simp; omega)) _).alloc (by first | (simp; done) | (simp; omega)) _).alloc (by first | (simp; done) | (simp; omega)) _
  have zA : (((((w.alloc (.cells #[.string nm, .slice pa ps.length pc, .slice ta ts.length tc, .int .i64 pr, .slice va l.length vc, .int .i64 at_] 25)).alloc (.cells #[.slice fa F.length fc, .slice ga G.length gc] 27)).alloc (.cells #[.string ⟨#[120]⟩] 9)).alloc (.cells #[.int .i64 5, .string ⟨#[120]⟩, .int .i64 0, .slice none 0 0, .slice none 0 0, .int .i64 0] 30)).alloc (.cells #[.string ⟨#[102, 111, 111, 58]⟩, .slice (some ⟨w.heap.size + 1 + 1, 0, none⟩) 1 1, .slice none 0 0, .int .i64 0, .slice (some ⟨w.heap.size + 1 + 1 + 1, 0, none⟩) 1 1, .int .i64 0] 32)).heap.size = w.heap.size + 5 := by simp
  have a0 : (((((w.alloc (.cells #[.string nm, .slice pa ps.length pc, .slice ta ts.length tc, .int .i64 pr, .slice va l.length vc, .int .i64 at_] 25)).alloc (.cells #[.slice fa F.length fc, .slice ga G.length gc] 27)).alloc (.cells #[.string ⟨#[120]⟩] 9)).alloc (.cells #[.int .i64 5, .string ⟨#[120]⟩, .int .i64 0, .slice none 0 0, .slice none 0 0, .int .i64 0] 30)).alloc (.cells #[.string ⟨#[102, 111, 111, 58]⟩, .slice (some ⟨w.heap.size + 1 + 1, 0, none⟩) 1 1, .slice none 0 0, .int .i64 0, .slice (some ⟨w.heap.size + 1 + 1 + 1, 0, none⟩) 1 1, .int .i64 0] 32)).heap[w.heap.size]? = some (.cells #[.string nm, .slice pa ps.length pc, .slice ta ts.length tc, .int .i64 pr, .slice va l.length vc, .int .i64 at_] 25) := by
    have h0 := heap_alloc_new w (.cells #[.string nm, .slice pa ps.length pc, .slice ta ts.length tc, .int .i64 pr, .slice va l.length vc, .int .i64 at_] 25)
    have hs : w.heap.size = w.heap.size := by simp
    rw [hs] at h0
    exact (heap_alloc_old _ _ _ (by first | (simp; done) | (simp; omega))).trans ((heap_alloc_old _ _ _ (by first | (simp; done) | (simp; omega))).trans ((heap_alloc_old _ _ _ (by first | (simp; done) | (simp; omega))).trans ((heap_alloc_old _ _ _ (by first | (simp; done) | (simp; omega))).trans (h0))))
  have a1 : (((((w.alloc (.cells #[.string nm, .slice pa ps.length pc, .slice ta ts.length tc, .int .i64 pr, .slice va l.length vc, .int .i64 at_] 25)).alloc (.cells #[.slice fa F.length fc, .slice ga G.length gc] 27)).alloc (.cells #[.string ⟨#[120]⟩] 9)).alloc (.cells #[.int .i64 5, .string ⟨#[120]⟩, .int .i64 0, .slice none 0 0, .slice none 0 0, .int .i64 0] 30)).alloc (.cells #[.string ⟨#[102, 111, 111, 58]⟩, .slice (some ⟨w.heap.size + 1 + 1, 0, none⟩) 1 1, .slice none 0 0, .int .i64 0, .slice (some ⟨w.heap.size + 1 + 1 + 1, 0, none⟩) 1 1, .int .i64 0] 32)).heap[w.heap.size + 1]? = some (.cells #[.slice fa F.length fc, .slice ga G.length gc] 27) := by
    have h0 := heap_alloc_new (w.alloc (.cells #[.string nm, .slice pa ps.length pc, .slice ta ts.length tc, .int .i64 pr, .slice va l.length vc, .int .i64 at_] 25)) (.cells #[.slice fa F.length fc, .slice ga G.length gc] 27)
    have hs : (w.alloc (.cells #[.string nm, .slice pa ps.length pc, .slice ta ts.length tc, .int .i64 pr, .slice va l.length vc, .int .i64 at_] 25)).heap.size = w.heap.size + 1 := by simp
    rw [hs] at h0
    exact (heap_alloc_old _ _ _ (by first | (simp; done) | (simp; omega))).trans ((heap_alloc_old _ _ _ (by first | (simp; done) | (simp; omega))).trans ((heap_alloc_old _ _ _ (by first | (simp; done) | (simp; omega))).trans (h0)))
  have a2 : (((((w.alloc (.cells #[.string nm, .slice pa ps.length pc, .slice ta ts.length tc, .int .i64 pr, .slice va l.length vc, .int .i64 at_] 25)).alloc (.cells #[.slice fa F.length fc, .slice ga G.length gc] 27)).alloc (.cells #[.string ⟨#[120]⟩] 9)).alloc (.cells #[.int .i64 5, .string ⟨#[120]⟩, .int .i64 0, .slice none 0 0, .slice none 0 0, .int .i64 0] 30)).alloc (.cells #[.string ⟨#[102, 111, 111, 58]⟩, .slice (some ⟨w.heap.size + 1 + 1, 0, none⟩) 1 1, .slice none 0 0, .int .i64 0, .slice (some ⟨w.heap.size + 1 + 1 + 1, 0, none⟩) 1 1, .int .i64 0] 32)).heap[w.heap.size + 1 + 1]? = some (.cells #[.string ⟨#[120]⟩] 9) := by
    have h0 := heap_alloc_new ((w.alloc (.cells #[.string nm, .slice pa ps.length pc, .slice ta ts.length tc, .int .i64 pr, .slice va l.length vc, .int .i64 at_] 25)).alloc (.cells #[.slice fa F.length fc, .slice ga G.length gc] 27)) (.cells #[.string ⟨#[120]⟩] 9)
    have hs : ((w.alloc (.cells #[.string nm, .slice pa ps.length pc, .slice ta ts.length tc, .int .i64 pr, .slice va l.length vc, .int .i64 at_] 25)).alloc (.cells #[.slice fa F.length fc, .slice ga G.length gc] 27)).heap.size = w.heap.size + 1 + 1 := by simp
    rw [hs] at h0
    exact (heap_alloc_old _ _ _ (by first | (simp; done) | (simp; omega))).trans ((heap_alloc_old _ _ _ (by first | (simp; done) | (simp; omega))).trans (h0))
  have a3 : (((((w.alloc (.cells #[.string nm, .slice pa ps.length pc, .slice ta ts.length tc, .int .i64 pr, .slice va l.length vc, .int .i64 at_] 25)).alloc (.cells #[.slice fa F.length fc, .slice ga G.length gc] 27)).alloc (.cells #[.string ⟨#[120]⟩] 9)).alloc (.cells #[.int .i64 5, .string ⟨#[120]⟩, .int .i64 0, .slice none 0 0, .slice none 0 0, .int .i64 0] 30)).alloc (.cells #[.string ⟨#[102, 111, 111, 58]⟩, .slice (some ⟨w.heap.size + 1 + 1, 0, none⟩) 1 1, .slice none 0 0, .int .i64 0, .slice (some ⟨w.heap.size + 1 + 1 + 1, 0, none⟩) 1 1, .int .i64 0] 32)).heap[w.heap.size + 1 + 1 + 1]? = some (.cells #[.int .i64 5, .string ⟨#[120]⟩, .int .i64 0, .slice none 0 0, .slice none 0 0, .int .i64 0] 30) := by
    have h0 := heap_alloc_new (((w.alloc (.cells #[.string nm, .slice pa ps.length pc, .slice ta ts.length tc, .int .i64 pr, .slice va l.length vc, .int .i64 at_] 25)).alloc (.cells #[.slice fa F.length fc, .slice ga G.length gc] 27)).alloc (.cells #[.string ⟨#[120]⟩] 9)) (.cells #[.int .i64 5, .string ⟨#[120]⟩, .int .i64 0, .slice none 0 0, .slice none 0 0, .int .i64 0] 30)
    have hs : (((w.alloc (.cells #[.string nm, .slice pa ps.length pc, .slice ta ts.length tc, .int .i64 pr, .slice va l.length vc, .int .i64 at_] 25)).alloc (.cells #[.slice fa F.length fc, .slice ga G.length gc] 27)).alloc (.cells #[.string ⟨#[120]⟩] 9)).heap.size = w.heap.size + 1 + 1 + 1 := by simp
    rw [hs] at h0
    exact (heap_alloc_old _ _ _ (by first | (simp; done) | (simp; omega))).trans (h0)
  have a4 : (((((w.alloc (.cells #[.string nm, .slice pa ps.length pc, .slice ta ts.length tc, .int .i64 pr, .slice va l.length vc, .int .i64 at_] 25)).alloc (.cells #[.slice fa F.length fc, .slice ga G.length gc] 27)).alloc (.cells #[.string ⟨#[120]⟩] 9)).alloc (.cells #[.int .i64 5, .string ⟨#[120]⟩, .int .i64 0, .slice none 0 0, .slice none 0 0, .int .i64 0] 30)).alloc (.cells #[.string ⟨#[102, 111, 111, 58]⟩, .slice (some ⟨w.heap.size + 1 + 1, 0, none⟩) 1 1, .slice none 0 0, .int .i64 0, .slice (some ⟨w.heap.size + 1 + 1 + 1, 0, none⟩) 1 1, .int .i64 0] 32)).heap[w.heap.size + 1 + 1 + 1 + 1]? = some (.cells #[.string ⟨#[102, 111, 111, 58]⟩, .slice (some ⟨w.heap.size + 1 + 1, 0, none⟩) 1 1, .slice none 0 0, .int .i64 0, .slice (some ⟨w.heap.size + 1 + 1 + 1, 0, none⟩) 1 1, .int .i64 0] 32) := by
    have h0 := heap_alloc_new ((((w.alloc (.cells #[.string nm, .slice pa ps.length pc, .slice ta ts.length tc, .int .i64 pr, .slice va l.length vc, .int .i64 at_] 25)).alloc (.cells #[.slice fa F.length fc, .slice ga G.length gc] 27)).alloc (.cells #[.string ⟨#[120]⟩] 9)).alloc (.cells #[.int .i64 5, .string ⟨#[120]⟩, .int .i64 0, .slice none 0 0, .slice none 0 0, .int .i64 0] 30)) (.cells #[.string ⟨#[102, 111, 111, 58]⟩, .slice (some ⟨w.heap.size + 1 + 1, 0, none⟩) 1 1, .slice none 0 0, .int .i64 0, .slice (some ⟨w.heap.size + 1 + 1 + 1, 0, none⟩) 1 1, .int .i64 0] 32)
    have hs : ((((w.alloc (.cells #[.string nm, .slice pa ps.length pc, .slice ta ts.length tc, .int .i64 pr, .slice va l.length vc, .int .i64 at_] 25)).alloc (.cells #[.slice fa F.length fc, .slice ga G.length gc] 27)).alloc (.cells #[.string ⟨#[120]⟩] 9)).alloc (.cells #[.int .i64 5, .string ⟨#[120]⟩, .int .i64 0, .slice none 0 0, .slice none 0 0, .int .i64 0] 30)).heap.size = w.heap.size + 1 + 1 + 1 + 1 := by simp
    rw [hs] at h0
    exact h0
  generalize (((((w.alloc (.cells #[.string nm, .slice pa ps.length pc, .slice ta ts.length tc, .int .i64 pr, .slice va l.length vc, .int .i64 at_] 25)).alloc (.cells #[.slice fa F.length fc, .slice ga G.length gc] 27)).alloc (.cells #[.string ⟨#[120]⟩] 9)).alloc (.cells #[.int .i64 5, .string ⟨#[120]⟩, .int .i64 0, .slice none 0 0, .slice none 0 0, .int .i64 0] 30)).alloc (.cells #[.string ⟨#[102, 111, 111, 58]⟩, .slice (some ⟨w.heap.size + 1 + 1, 0, none⟩) 1 1, .slice none 0 0, .int .i64 0, .slice (some ⟨w.heap.size + 1 + 1 + 1, 0, none⟩) 1 1, .int .i64 0] 32)) = wA at *
  have ON := one_mem (b1 := w.heap.size + 1 + 1) (b2 := w.heap.size + 1 + 1 + 1) a2 a3
  have RES := Lib.hid (resolve_any (fun _ => True) 0 fooB _ _ [xB] [] 0 _ _ _ 0 [oneN] [] [] wA (by omega) ON.1 (strs_nil _ _) ON.2 (strs_nil _ _) (strs_nil _ _) (by simp) ⟨by simp, fun n hn => by obtain rfl : n = oneN := (by simpa using hn); exact Nat.zero_le _⟩)
  rw [one_res] at RES
  have n0 := cell_of_row wA (w.heap.size + 1 + 1 + 1 + 1) 0 _ _ _ a4
  have n1 := cell_of_row wA (w.heap.size + 1 + 1 + 1 + 1) 1 _ _ _ a4
  have n2 := cell_of_row wA (w.heap.size + 1 + 1 + 1 + 1) 2 _ _ _ a4
  have n3 := cell_of_row wA (w.heap.size + 1 + 1 + 1 + 1) 3 _ _ _ a4
  have n4 := cell_of_row wA (w.heap.size + 1 + 1 + 1 + 1) 4 _ _ _ a4
  have n5 := cell_of_row wA (w.heap.size + 1 + 1 + 1 + 1) 5 _ _ _ a4
  simp at n0 n1 n2 n3 n4 n5
  have A0 := Lib.hid a0
  have A1 := Lib.hid a1
  have HBA := Lib.hid hbA
  clear a0 a1 a2 a3 a4 hbA ON
  go_wp2_with fail
  refine RES.out.mono ?_
  rintro e w1 ⟨⟨v1, rfl, h1⟩, hb1⟩
  obtain ⟨r1, rc1, rfl, -⟩ := id h1.shape
  have z1 := hb1.size
  have HB1 := Lib.hid hb1
  clear h1 hb1
  unfold codeV
  go_upto_region 5 with fail
  have hb2 : Below w.heap.size w (w1.alloc (.cells #[.string fooB, .int .i64 1, .int .i64 1, .int .i64 0, .slice r1 1 rc1] 35)) := (HBA.out.trans (HB1.out.mono HBA.out.size)).alloc (by omega) _
  have z2 : (w1.alloc (.cells #[.string fooB, .int .i64 1, .int .i64 1, .int .i64 0, .slice r1 1 rc1] 35)).heap.size = w1.heap.size + 1 := by simp
  have q0 := (heap_alloc_old w1 (.cells #[.string fooB, .int .i64 1, .int .i64 1, .int .i64 0, .slice r1 1 rc1] 35) w.heap.size (by omega)).trans ((HB1.out.block w.heap.size (by omega)).trans A0.out)
  have q1 := (heap_alloc_old w1 (.cells #[.string fooB, .int .i64 1, .int .i64 1, .int .i64 0, .slice r1 1 rc1] 35) (w.heap.size + 1) (by omega)).trans ((HB1.out.block (w.heap.size + 1) (by omega)).trans A1.out)
  generalize (w1.alloc (.cells #[.string fooB, .int .i64 1, .int .i64 1, .int .i64 0, .slice r1 1 rc1] 35)) = w2 at *
  clear n0 n1 n2 n3 n4 n5 RES HBA HB1 A0 A1
  have CUT := Lib.hid (cut_any (· < w.heap.size) D nm _ _ ps ts pr _ at_ l w2 (fun b hb => by omega) (HP.out.later hb2) (HT.out.later hb2) (HN.out.later hb2))
  have n0 := cell_of_row w2 w.heap.size 0 _ _ _ q0
  have n1 := cell_of_row w2 w.heap.size 1 _ _ _ q0
  have n2 := cell_of_row w2 w.heap.size 2 _ _ _ q0
  have n3 := cell_of_row w2 w.heap.size 3 _ _ _ q0
  have n4 := cell_of_row w2 w.heap.size 4 _ _ _ q0
  have n5 := cell_of_row w2 w.heap.size 5 _ _ _ q0
  simp at n0 n1 n2 n3 n4 n5
  have Q0 := Lib.hid q0
  have Q1 := Lib.hid q1
  have HB2 := Lib.hid hb2
  clear q0 q1 hb2
  go_wp2_with fail
  refine CUT.out.mono ?_
  rintro e w3 ⟨pv', tv', bv', rfl, hp3, ht3, hn3, hb3⟩
  have hpl : (ps.take 15).length ≤ 15 := by rw [List.length_take]; omega
  have htl : (ts.take 15).length ≤ 15 := by rw [List.length_take]; omega
  have hln := few_len 60 200 l (Nat.le_refl _)
  have hsm := few_sm 60 200 l (Nat.le_refl _)
  have hcn := few_cnt 60 200 l
  replace hcn : (allL 60 (few 60 200 l).1).length ≤ 200 := by omega
  generalize (few 60 200 l).1 = l' at *
  generalize ps.take 15 = ps' at *
  generalize ts.take 15 = ts' at *
  obtain ⟨pa', pc', rfl, -⟩ := id hp3
  obtain ⟨ta', tc', rfl, -⟩ := id ht3
  obtain ⟨va', vc', rfl, -⟩ := id hn3.shape
  have z3 := hb3.size
  have q0 := (hb3.block w.heap.size (by omega)).trans Q0.out
  have q1 := (hb3.block (w.heap.size + 1) (by omega)).trans Q1.out
  have m0 := cell_of_row w3 w.heap.size 0 _ _ _ q0
  have m1 := cell_of_row w3 w.heap.size 1 _ _ _ q0
  have m2 := cell_of_row w3 w.heap.size 2 _ _ _ q0
  have m3 := cell_of_row w3 w.heap.size 3 _ _ _ q0
  have m4 := cell_of_row w3 w.heap.size 4 _ _ _ q0
  have m5 := cell_of_row w3 w.heap.size 5 _ _ _ q0
  have mf : ∀ j, w3.frozen? ⟨w.heap.size, j, none⟩ = false := (by intro j; unfold World.frozen?; rw [q0]; simp)
  simp at m0 m1 m2 m3 m4 m5
  have HP3 := Lib.hid hp3
  have HT3 := Lib.hid ht3
  have HN3 := Lib.hid hn3
  have HB3 := Lib.hid (HB2.out.trans (hb3.mono HB2.out.size))
  have HLN := Lib.hid hln
  have HSM := Lib.hid hsm
  have HCN := Lib.hid hcn
  have R0 := Lib.hid q0
  have R1 := Lib.hid q1
  clear hp3 ht3 hn3 hb3 q0 q1 hln hsm hcn n0 n1 n2 n3 n4 n5 CUT HP HT HN Q0 Q1 HB2
  unfold mtV
  go_upto_region 6 with fail
  have e4 : Ex (fun k => k = w.heap.size) w3 ((((((w3.setCell ⟨w.heap.size, 0, none⟩ (.string nm)).setCell ⟨w.heap.size, 1, none⟩ (.slice pa' ps'.length pc')).setCell ⟨w.heap.size, 2, none⟩ (.slice ta' ts'.length tc')).setCell ⟨w.heap.size, 3, none⟩ (.int .i64 pr)).setCell ⟨w.heap.size, 4, none⟩ (.slice va' l'.length vc')).setCell ⟨w.heap.size, 5, none⟩ (.int .i64 at_)) := (((((Ex.set w3 _).trans (Ex.set _ _)).trans (Ex.set _ _)).trans (Ex.set _ _)).trans (Ex.set _ _)).trans (Ex.set _ _)
  have q0 : ((((((w3.setCell ⟨w.heap.size, 0, none⟩ (.string nm)).setCell ⟨w.heap.size, 1, none⟩ (.slice pa' ps'.length pc')).setCell ⟨w.heap.size, 2, none⟩ (.slice ta' ts'.length tc')).setCell ⟨w.heap.size, 3, none⟩ (.int .i64 pr)).setCell ⟨w.heap.size, 4, none⟩ (.slice va' l'.length vc')).setCell ⟨w.heap.size, 5, none⟩ (.int .i64 at_)).heap[w.heap.size]? = some (.cells #[.string nm, .slice pa' ps'.length pc', .slice ta' ts'.length tc', .int .i64 pr, .slice va' l'.length vc', .int .i64 at_] 25 (0, 0)) := heap_set6 R0.out _ _ _ _ _ _
  generalize ((((((w3.setCell ⟨w.heap.size, 0, none⟩ (.string nm)).setCell ⟨w.heap.size, 1, none⟩ (.slice pa' ps'.length pc')).setCell ⟨w.heap.size, 2, none⟩ (.slice ta' ts'.length tc')).setCell ⟨w.heap.size, 3, none⟩ (.int .i64 pr)).setCell ⟨w.heap.size, 4, none⟩ (.slice va' l'.length vc')).setCell ⟨w.heap.size, 5, none⟩ (.int .i64 at_)) = w4 at *
  have z4 := e4.size
  clear m0 m1 m2 m3 m4 m5 mf
  have HP4 := Lib.hid (HP3.out.ex e4 fun k hk e => by omega)
  have HT4 := Lib.hid (HT3.out.ex e4 fun k hk e => by omega)
  have HN4 := Lib.hid (HN3.out.ex e4 fun k hk e => by omega)
  have HF4 := Lib.hid ((HF.out.later HB3.out).ex e4 fun k hk e => by omega)
  have HG4 := Lib.hid ((HG.out.later HB3.out).ex e4 fun k hk e => by omega)
  have HB4 := Lib.hid (HB3.out.trans (e4.below (fun k hk e => by omega) (by omega)))
  have q1 := (e4.block (w.heap.size + 1) (by omega) (by omega)).trans R1.out
  have k0 := cell_of_row w4 (w.heap.size + 1) 0 _ _ _ q1
  have k1 := cell_of_row w4 (w.heap.size + 1) 1 _ _ _ q1
  simp at k0 k1
  have Q0 := Lib.hid q0
  clear e4 q0 q1 HP3 HT3 HN3 HF HG HB3 R0 R1
  go_region
  have hd : Below w4.heap.size w4 w4.drew := (Below.refl _ _).drew
  have HP5 := Lib.hid (HP4.out.later hd)
  have HT5 := Lib.hid (HT4.out.later hd)
  have HN5 := Lib.hid (HN4.out.later hd)
  have HF5 := Lib.hid (HF4.out.later hd)
  have HG5 := Lib.hid (HG4.out.later hd)
  have HB5 := Lib.hid (HB4.out.drew)
  have Q5 := Lib.hid (show w4.drew.heap[w.heap.size]? = _ from Q0.out)
  have z5 : w4.drew.heap.size = w4.heap.size := rfl
  generalize w4.drew = w5 at *
  clear hd HP4 HT4 HN4 HF4 HG4 HB4 Q0 k0 k1
  go_upto_if 58 with fail
  go_cut [9] from 27 (fun s wx => wx = w5 ∧ ∃ qa qc, s = .slice qa (F.take 8).length qc ∧ StrsX (· < w.heap.size) w5 (.slice qa (F.take 8).length qc) (F.take 8))
  case first =>
    by_cases h9 : 8 < F.length
    · have hd9 : decide ((8 : Int) < (F.length : Int)) = true := decide_eq_true (by omega)
      obtain ⟨qv, hpv, hrun⟩ := strs_head HF5.out 8 (by omega)
      obtain ⟨qa, qc, rfl, -⟩ := id hpv
      have HPV := Lib.hid hpv
      have HTL : Hid ((F.take 8).length = 8) := Lib.hid (by rw [List.length_take]; omega)
      rw [HTL.out] at hrun
      have hrun' : ∀ W, (Instr.slice 22 (.slice fa F.length fc) none (some (.int .i64 8)) none).run Try.prog W = .ok (.slice qa 8 qc) W := hrun
      clear hpv hrun
      go_wp2_with fail
      go_meet
      case rel =>
        have h9' := HPV.out
        rw [HTL.out] at h9' ⊢
        exact ⟨rfl, qa, qc, rfl, h9'⟩
    · have hd9 : decide ((8 : Int) < (F.length : Int)) = false := decide_eq_false (by omega)
      have HTL : Hid (F.take 8 = F) := Lib.hid (List.take_of_length_le (by omega))
      go_wp2_with fail
      go_meet
      case rel =>
        rw [HTL.out]
        exact ⟨rfl, fa, fc, rfl, HF5.out⟩
  obtain ⟨hwc, ua, uc, rfl, hu⟩ := hcut
  obtain rfl := hwc.symm
  have hul : (F.take 8).length ≤ 8 := by rw [List.length_take]; omega
  have Hu := Lib.hid hu
  generalize F.take 8 = F' at *
  clear hu
  go_upto_if 63 with fail
  go_cut [10] from 27 (fun s wx => wx = w5 ∧ ∃ qa qc, s = .slice qa (G.take 8).length qc ∧ StrsX (· < w.heap.size) w5 (.slice qa (G.take 8).length qc) (G.take 8))
  case first =>
    by_cases h9 : 8 < G.length
    · have hd9 : decide ((8 : Int) < (G.length : Int)) = true := decide_eq_true (by omega)
      obtain ⟨qv, hpv, hrun⟩ := strs_head HG5.out 8 (by omega)
      obtain ⟨qa, qc, rfl, -⟩ := id hpv
      have HPV := Lib.hid hpv
      have HTL : Hid ((G.take 8).length = 8) := Lib.hid (by rw [List.length_take]; omega)
      rw [HTL.out] at hrun
      have hrun' : ∀ W, (Instr.slice 22 (.slice ga G.length gc) none (some (.int .i64 8)) none).run Try.prog W = .ok (.slice qa 8 qc) W := hrun
      clear hpv hrun
      go_wp2_with fail
      go_meet
      case rel =>
        have h9' := HPV.out
        rw [HTL.out] at h9' ⊢
        exact ⟨rfl, qa, qc, rfl, h9'⟩
    · have hd9 : decide ((8 : Int) < (G.length : Int)) = false := decide_eq_false (by omega)
      have HTL : Hid (G.take 8 = G) := Lib.hid (List.take_of_length_le (by omega))
      go_wp2_with fail
      go_meet
      case rel =>
        rw [HTL.out]
        exact ⟨rfl, ga, gc, rfl, HG5.out⟩
  obtain ⟨hwc, xa, xc, rfl, hx⟩ := hcut
  obtain rfl := hwc.symm
  have hxl : (G.take 8).length ≤ 8 := by rw [List.length_take]; omega
  have Hx := Lib.hid hx
  generalize G.take 8 = G' at *
  clear hx
  go_upto_region 11 with fail
  have n0 := cell_of_row w5 w.heap.size 0 _ _ _ Q5.out
  have n1 := cell_of_row w5 w.heap.size 1 _ _ _ Q5.out
  have n2 := cell_of_row w5 w.heap.size 2 _ _ _ Q5.out
  have n3 := cell_of_row w5 w.heap.size 3 _ _ _ Q5.out
  have n4 := cell_of_row w5 w.heap.size 4 _ _ _ Q5.out
  have n5 := cell_of_row w5 w.heap.size 5 _ _ _ Q5.out
  simp at n0 n1 n2 n3 n4 n5
  have OWN := Lib.hid (ownM_any _ 60 nm _ _ ps' ts' pr _ at_ l' w5 HP5.out HT5.out HN5.out hpl htl HSM.out)
  go_wp2_with fail
  refine OWN.out.mono ?_
  rintro e w6 ⟨pv6, tv6, bv6, rfl, hp6, ht6, hn6, hb6⟩
  obtain ⟨pa6, pc6, rfl, -⟩ := id hp6
  obtain ⟨ta6, tc6, rfl, -⟩ := id ht6
  obtain ⟨va6, vc6, rfl, -⟩ := id hn6.shape
  have z6 := hb6.size
  unfold mtV
  go_upto_region 12 with fail
  have hb7 : Below w5.heap.size w5 (w6.alloc (.cells #[.string nm, .slice pa6 ps'.length pc6, .slice ta6 ts'.length tc6, .int .i64 pr, .slice va6 l'.length vc6, .int .i64 at_] 32)) := hb6.alloc (by omega) _
  have g7 := heap_alloc_new w6 (.cells #[.string nm, .slice pa6 ps'.length pc6, .slice ta6 ts'.length tc6, .int .i64 pr, .slice va6 l'.length vc6, .int .i64 at_] 32)
  have z7 : (w6.alloc (.cells #[.string nm, .slice pa6 ps'.length pc6, .slice ta6 ts'.length tc6, .int .i64 pr, .slice va6 l'.length vc6, .int .i64 at_] 32)).heap.size = w6.heap.size + 1 := by simp
  have hc7 : Below w6.heap.size w6 (w6.alloc (.cells #[.string nm, .slice pa6 ps'.length pc6, .slice ta6 ts'.length tc6, .int .i64 pr, .slice va6 l'.length vc6, .int .i64 at_] 32)) := (Below.refl _ _).alloc (Nat.le_refl _) _
  generalize (w6.alloc (.cells #[.string nm, .slice pa6 ps'.length pc6, .slice ta6 ts'.length tc6, .int .i64 pr, .slice va6 l'.length vc6, .int .i64 at_] 32)) = w7 at *
  have HP7 := Lib.hid ((hp6.later hc7).weak (y := fun _ => True) fun _ _ => trivial)
  have HT7 := Lib.hid ((ht6.later hc7).weak (y := fun _ => True) fun _ _ => trivial)
  have HN7 := Lib.hid ((hn6.later hc7).weak (y := fun _ => True) fun _ _ => trivial)
  have HF7 := Lib.hid ((Hu.out.later hb7).weak (y := fun _ => True) fun _ _ => trivial)
  have HG7 := Lib.hid ((Hx.out.later hb7).weak (y := fun _ => True) fun _ _ => trivial)
  have HP' := Lib.hid (HP5.out.later hb7)
  have HT' := Lib.hid (HT5.out.later hb7)
  have HN' := Lib.hid (HN5.out.later hb7)
  have Q7 := Lib.hid ((hb7.block w.heap.size (by omega)).trans Q5.out)
  have HB7 := Lib.hid (HB5.out.trans (hb7.mono HB5.out.size))
  have G7 := Lib.hid g7
  clear n0 n1 n2 n3 n4 n5 OWN hp6 ht6 hn6 hb6 hb7 g7 hc7 HP5 HT5 HN5 HF5 HG5 HB5 Q5 Hu Hx
  have k0 := cell_of_row w7 w6.heap.size 0 _ _ _ G7.out
  have k1 := cell_of_row w7 w6.heap.size 1 _ _ _ G7.out
  have k2 := cell_of_row w7 w6.heap.size 2 _ _ _ G7.out
  have k3 := cell_of_row w7 w6.heap.size 3 _ _ _ G7.out
  have k4 := cell_of_row w7 w6.heap.size 4 _ _ _ G7.out
  have k5 := cell_of_row w7 w6.heap.size 5 _ _ _ G7.out
  simp at k0 k1 k2 k3 k4 k5
  generalize w6.heap.size = bx at *
  have RES := Lib.hid (resolve_any (fun _ => True) 59 nm _ _ ps' ts' pr _ _ _ at_ l' F' G' w7 (by omega) HP7.out HT7.out HN7.out HF7.out HG7.out (by omega) HLN.out)
  cases hx : resolveM F' G' 59 nm ps' ts' pr l' with
  | none =>
    rw [hx] at RES
    clear hx
    go_wp2_with fail
    refine RES.out.mono ?_
    rintro e w8 ⟨⟨a8, e8, hne, rfl⟩, hb8⟩
    have HB8 := Lib.hid (HB7.out.trans (hb8.mono HB7.out.size))
    have he8 : (e8 != 0) = true := by simpa using hne
    have he8' : (e8 == 0) = false := by simpa using hne
    have z8 := hb8.size
    clear hb8
    unfold codeV
    go_wp2_with fail
    go_ret
    exact ⟨rfl, HB8.out.alloc (by omega) _⟩
  | some q =>
    obtain ⟨its, sl⟩ := q
    have HX := Lib.hid hx
    rw [hx] at RES
    clear hx
    go_wp2_with fail
    refine RES.out.mono ?_
    rintro e w8 ⟨⟨v8, rfl, h8⟩, hb8⟩
    obtain ⟨a8, c8, rfl, -⟩ := id h8.shape
    have z8 := hb8.size
    unfold codeV
    go_upto_region 15 with fail
    have hb9 : Below w7.heap.size w7 (w8.alloc (.cells #[.string nm, .int .i64 (ps'.length : Int), .int .i64 (sl : Int), .int .i64 pr, .slice a8 its.length c8] 35)) := hb8.alloc (by omega) _
    have g9 := heap_alloc_new w8 (.cells #[.string nm, .int .i64 (ps'.length : Int), .int .i64 (sl : Int), .int .i64 pr, .slice a8 its.length c8] 35)
    have z9 : (w8.alloc (.cells #[.string nm, .int .i64 (ps'.length : Int), .int .i64 (sl : Int), .int .i64 pr, .slice a8 its.length c8] 35)).heap.size = w8.heap.size + 1 := by simp
    have hc9 : Below w8.heap.size w8 (w8.alloc (.cells #[.string nm, .int .i64 (ps'.length : Int), .int .i64 (sl : Int), .int .i64 pr, .slice a8 its.length c8] 35)) := (Below.refl _ _).alloc (Nat.le_refl _) _
    generalize (w8.alloc (.cells #[.string nm, .int .i64 (ps'.length : Int), .int .i64 (sl : Int), .int .i64 pr, .slice a8 its.length c8] 35)) = w9 at *
    have HP9 := Lib.hid ((HP7.out.later hb9).turn (y := (· < w9.heap.size)) fun _ hb _ => hb)
    have HT9 := Lib.hid ((HT7.out.later hb9).turn (y := (· < w9.heap.size)) fun _ hb _ => hb)
    have HN9 := Lib.hid ((HN7.out.later hb9).turn (y := (· < w9.heap.size)) fun _ hb _ => hb)
    have HF9 := Lib.hid ((HF7.out.later hb9).turn (y := (· < w9.heap.size)) fun _ hb _ => hb)
    have HG9 := Lib.hid ((HG7.out.later hb9).turn (y := (· < w9.heap.size)) fun _ hb _ => hb)
    have HPm := Lib.hid ((HP'.out.later hb9).turn (y := (· < w9.heap.size)) fun _ hb _ => hb)
    have HTm := Lib.hid ((HT'.out.later hb9).turn (y := (· < w9.heap.size)) fun _ hb _ => hb)
    have HNm := Lib.hid ((HN'.out.later hb9).turn (y := (· < w9.heap.size)) fun _ hb _ => hb)
    have HI9 := Lib.hid ((h8.later hc9).turn (y := (· < w9.heap.size)) fun _ hb _ _ => hb)
    have hbx : bx < w7.heap.size := by omega
    have X9 := Lib.hid ((hb9.block bx hbx).trans G7.out)
    have M9 := Lib.hid ((hb9.block w.heap.size (by omega)).trans Q7.out)
    have C9 := Lib.hid g9
    have HB9 := Lib.hid (HB7.out.trans (hb9.mono HB7.out.size))
    have HCK := Lib.hid (check_names (resolve_check HX.out))
    have hw9 : w.heap.size < w8.heap.size := by omega
    have hx9 : bx < w9.heap.size := by omega
    have hc9' : w8.heap.size < w9.heap.size := by omega
    clear z9
    clear hb9 g9 hc9 h8 hb8 HP7 HT7 HN7 HF7 HG7 HP' HT' HN' G7 Q7 HB7 RES k0 k1 k2 k3 k4 k5
    obtain ⟨iS, hiS, sz0, sz1, sz2⟩ := info_parts strInfo
    have hsz := HCK.out.1
    generalize w8.heap.size = bc at *
    have HCB := Lib.hid (show ∀ w', Below w9.heap.size w9 w' → w'.cell? ⟨w.heap.size, 0, none⟩ = some (.string nm) ∧ w'.cell? ⟨w.heap.size, 1, none⟩ = some (.slice pa' ps'.length pc') ∧ w'.cell? ⟨w.heap.size, 2, none⟩ = some (.slice ta' ts'.length tc') from fun W hW => by
      have a0 := (hW.block w.heap.size (by omega)).trans M9.out
      exact ⟨cell_of_row W _ _ _ _ _ a0, cell_of_row W _ _ _ _ _ a0, cell_of_row W _ _ _ _ _ a0⟩)
    have HPR := Lib.hid (show ∀ W, Below w9.heap.size w9 W → StrsX (· < w9.heap.size) W (.slice pa' ps'.length pc') ps' from fun W hW => HPm.out.later hW)
    have HTR := Lib.hid (show ∀ W, Below w9.heap.size w9 W → StrsX (· < w9.heap.size) W (.slice ta' ts'.length tc') ts' from fun W hW => HTm.out.later hW)
    obtain ⟨p0, p1, p2⟩ := HCB.out w9.drew (Below.refl _ _).drew
    have k0 : Below w9.heap.size w9 w9 := Below.refl _ _
    go_upto_region 16 with fail
    go_region_held3 (fun w' => w'.cell? ⟨w.heap.size, 0, none⟩ = some (.string nm) ∧ w'.cell? ⟨w.heap.size, 1, none⟩ = some (.slice pa' ps'.length pc') ∧ w'.cell? ⟨w.heap.size, 2, none⟩ = some (.slice ta' ts'.length tc'))
      (first | with_reducible exact ⟨p0, p1, p2⟩ | (refine HCB.out _ ?_; with_reducible assumption) | (refine HCB.out _ ?_; repeat (first | with_reducible exact Below.refl _ _ | ((with_reducible refine Below.setCell ?_ ?_ _); rotate_left; focus (first | (simp; done) | (simp; omega) | omega)) | ((with_reducible refine Below.alloc ?_ ?_ _); rotate_left; focus (first | (simp; done) | (simp; omega) | omega)) | (with_reducible refine Below.drew ?_) | ((with_reducible refine Below.trans ?_ (Below.mono hbS ?_)); rotate_left; focus (first | (simp; done) | (simp; omega) | omega)) | ((with_reducible refine Below.trans ?_ (Below.mono hbU ?_)); rotate_left; focus (first | (simp; done) | (simp; omega) | omega)) | ((with_reducible refine Below.trans ?_ (Below.mono k0 ?_)); rotate_left; focus (first | (simp; done) | (simp; omega) | omega)))))
      (first
        | (refine step_append_strs _ rfl (.tmp 89) (.tmp 91) 22 rfl w9.heap.size 9 iS _ 16 Try.underlying22 hiS sz0 sz1 sz2 rfl (.slice (some ⟨w9.heap.size, 0, none⟩) 1 1) 1 [.string nm] (by rfl) (own_str (heap_alloc_new w9.drew _) (Nat.le_refl _)) (.slice pa' ps'.length pc') ps' (by rfl) (HPR.out _ ?_) (by unfold maxLen; omega) (by omega) (by simp) ?_
           · repeat (first | with_reducible exact Below.refl _ _ | ((with_reducible refine Below.setCell ?_ ?_ _); rotate_left; focus (first | (simp; done) | (simp; omega) | omega)) | ((with_reducible refine Below.alloc ?_ ?_ _); rotate_left; focus (first | (simp; done) | (simp; omega) | omega)) | (with_reducible refine Below.drew ?_) | ((with_reducible refine Below.trans ?_ (Below.mono k0 ?_)); rotate_left; focus (first | (simp; done) | (simp; omega) | omega)))
           intro vS wS hownS hgrS hatS
           have hbS : Below w9.heap.size w9 wS := (((Below.refl w9.heap.size w9).drew).alloc (Nat.le_refl _) _).grown hgrS (by simp) (fun g hg => by have := Option.some.inj (show some w9.heap.size = some g from hg); omega))
        | (refine step_append_strs _ rfl (.tmp 92) (.tmp 94) 22 rfl w9.heap.size 9 iS _ 16 Try.underlying22 hiS sz0 sz1 sz2 rfl vS (1 + ps'.length) ([.string nm] ++ ps'.map Value.string) (by rfl) hownS (.slice ta' ts'.length tc') ts' (by rfl) (HTR.out _ ?_) (by unfold maxLen; omega) (by omega) (by have := hbS.size; omega) ?_
           · with_reducible assumption
           intro vU wU hownU hgrU hatU
           have hbU : Below w9.heap.size w9 wU := hbS.grown hgrU (hbS.size) (fun g hg => (hownS.lt g hg).1)))
    have HA0 := Lib.hid (show wU.ownsRow w9.heap.size 9 1 vU (nm :: (ps' ++ ts')).length ((nm :: (ps' ++ ts')).map Value.string) by
      have e1 : (nm :: (ps' ++ ts')).length = 1 + ps'.length + ts'.length := by simp; omega
      rw [e1]
      have e2 : (nm :: (ps' ++ ts')).map Value.string = [.string nm] ++ ps'.map Value.string ++ ts'.map Value.string := by simp
      rw [e2]
      exact hownU)
    have HA0L : Hid ((nm :: (ps' ++ ts')).length ≤ 31) := Lib.hid (by simp; omega)
    have HA0S := Lib.hid (show ∀ s, s ∈ nm :: (ps' ++ ts') → s.size ≤ 5000 from fun s hs => by
      rcases List.mem_cons.1 hs with rfl | hs
      · omega
      · rcases List.mem_append.1 hs with hs | hs
        · have := HCK.out.2.1 s hs; omega
        · have := HCK.out.2.2.1 s hs; omega)
    have hbU' := HCB.out
    have HBU := Lib.hid hbU
    have a4 := cell_of_row wU w.heap.size 4 _ _ _ ((hbU.block w.heap.size (by omega)).trans M9.out)
    simp at a4
    have zU := hbU.size
    have ALL := Lib.hid (allN_any 60 (· < w9.heap.size) _ l' wU (fun b hb => by omega) (HNm.out.later hbU) (by have := HCN.out; omega))
    clear hownU hgrU hatU hownS hgrS hatS hbS hbU hbU' p0 p1 p2 k0 HCB HPR HTR
    go_wp2_with fail
    refine ALL.out.mono ?_
    rintro e w12 ⟨vn, rfl, hnd, hb12⟩
    have HND0 := Lib.hid (show ∀ y, y ∈ allL 60 l' → y.name.size ≤ 5000 ∧ ∀ s, s ∈ y.names → s.size ≤ 64 from fun y hy => ⟨(all_name 60 l' HSM.out y hy).1, HCK.out.2.2.2 y hy⟩)
    have HND9 := Lib.hid (show ∀ y, y ∈ allL 60 l' → y.names.length ≤ 9 from fun y hy => (all_name 60 l' HSM.out y hy).2)
    have HNDL := Lib.hid (show noL = noL from rfl)
    have hcn := HCN.out
    generalize hAL : allL 60 l' = ND at *
    have HAL := Lib.hid hAL
    generalize hA0 : nm :: (ps' ++ ts') = A0 at *
    have HAA := Lib.hid hA0
    obtain ⟨an, cn, rfl, -⟩ := id hnd.shape
    have z12 := hb12.size
    have hlt := HA0.out.lt
    have HD12 := Lib.hid (show NodesX (fun b => some b ≠ vU.ownBlock) 60 w12 (.slice an ND.length cn) ND from hnd.weak fun b hb e => by
      have := hlt b e.symm
      omega)
    have HO12 := Lib.hid (own_grown (w' := w12) HA0.out fun g hg => hb12.block g (hlt g hg).2)
    have HB12 := Lib.hid (HBU.out.trans (hb12.mono zU))
    clear hnd hb12 hlt hAL hA0 a4 ALL HA0
    go_wp2_with fail
    go_loopg [16, 100] ND.length (fun gg s16 s100 wr => ∃ (i : Nat), gg = ND.length - i ∧ i ≤ ND.length ∧ s100 = .int .i64 (i : Int) ∧ wr.ownsRow w9.heap.size 9 1 s16 (A0 ++ flatN (ND.take i)).length ((A0 ++ flatN (ND.take i)).map Value.string) ∧ NodesX (fun b => some b ≠ s16.ownBlock) 60 wr (.slice an ND.length cn) ND ∧ Below w9.heap.size w9 wr)
    case atStart => exact ⟨0, rfl, by omega, rfl, by simpa [flatN] using HO12.out, HD12.out, HB12.out⟩
    case round =>
      obtain ⟨i, hg, hi, rfl, hown, hnd, hb⟩ := hrel
      have HGG := Lib.hid hg
      have HOW := Lib.hid hown
      have HND := Lib.hid hnd
      have HB := Lib.hid hb
      have hwr := hb.size
      clear hg hown hnd hb
      by_cases hlt' : i < ND.length
      · have HLT := Lib.hid hlt'
        have hl' := List.getElem?_eq_getElem hlt'
        obtain ⟨b, o, kv, nv, rfl, c0, c1, c2, c3, c4, c5, hk, hs, ho⟩ := HND.out.at i _ hl'
        obtain ⟨ka, kc, rfl, -⟩ := id hk.shape
        obtain ⟨na, nc, rfl, -⟩ := id hs
        have HT := Lib.hid (flatN_take hl')
        have hs9 := HND9.out _ (List.getElem_mem hlt')
        have hsS := (HND0.out _ (List.getElem_mem hlt')).1
        have hLl : (A0 ++ flatN (ND.take i)).length ≤ 3000 := by
          have h1 := flatN_len (ND.take i) fun y hy => HND9.out y (List.mem_of_mem_take hy)
          have h2 : (ND.take i).length ≤ 200 := by rw [List.length_take]; omega
          have h3 := HA0L.out
          rw [List.length_append]
          omega
        have HNM := Lib.hid hs
        clear hk hs ho hl'
        generalize ND[i] = s at *
        generalize hLL : A0 ++ flatN (ND.take i) = L at *
        have HLL := Lib.hid hLL
        clear hLL
        go_upto_region 20 with fail
        have hwb : Below wr.heap.size wr (wr.alloc (.cells #[.int .i64 s.kind, .string s.name, .int .i64 s.num, .slice ka s.kids.length kc, .slice na s.names.length nc, .int .i64 s.at_] 43)) := (Below.refl _ _).alloc (Nat.le_refl _) _
        have hbk := heap_alloc_new wr (.cells #[.int .i64 s.kind, .string s.name, .int .i64 s.num, .slice ka s.kids.length kc, .slice na s.names.length nc, .int .i64 s.at_] 43)
        have hszb : wr.heap.size < (wr.alloc (.cells #[.int .i64 s.kind, .string s.name, .int .i64 s.num, .slice ka s.kids.length kc, .slice na s.names.length nc, .int .i64 s.at_] 43)).heap.size := by simp
        generalize (wr.alloc (.cells #[.int .i64 s.kind, .string s.name, .int .i64 s.num, .slice ka s.kids.length kc, .slice na s.names.length nc, .int .i64 s.at_] 43)) = wb at *
        have HO := HOW.out.lt
        have HCB := Lib.hid (show ∀ (w' : World), (∀ k, k < wb.heap.size → some k ≠ u16.ownBlock → w'.heap[k]? = wb.heap[k]?) → w'.cell? ⟨wr.heap.size, 1, none⟩ = some (.string s.name) ∧ w'.cell? ⟨wr.heap.size, 4, none⟩ = some (.slice na s.names.length nc) from fun W hW => by
          have a0 := (hW wr.heap.size hszb (fun e => by have := (HO _ e.symm).2; omega)).trans hbk
          exact ⟨cell_of_row W _ _ _ _ _ a0, cell_of_row W _ _ _ _ _ a0⟩)
        have HOR := Lib.hid (show ∀ W, Below wb.heap.size wb W → W.ownsRow w9.heap.size 9 1 u16 L.length (L.map Value.string) from fun W hW => own_grown HOW.out fun g hg => (hW.block g (by have := (HO g hg).2; omega)).trans (hwb.block g (HO g hg).2))
        have HNB := Lib.hid (HNM.out.later hwb)
        have HDB := Lib.hid (HND.out.later hwb)
        have HBB := Lib.hid (HB.out.trans (hwb.mono hwr))
        obtain ⟨p0, p1⟩ := HCB.out wb.drew (fun k _ _ => rfl)
        clear HO
        have hbase : w9.heap.size ≤ wb.heap.size := by omega
        go_region_held3 (fun w' => w'.cell? ⟨wr.heap.size, 1, none⟩ = some (.string s.name) ∧ w'.cell? ⟨wr.heap.size, 4, none⟩ = some (.slice na s.names.length nc))
          (first | with_reducible exact ⟨p0, p1⟩ | with_reducible exact ⟨q0, q1⟩ | with_reducible exact ⟨r0, r1⟩ | (refine HCB.out _ (fun k hk _ => ?_); exact heap_alloc_old _ _ _ hk))
          (first
            | (refine step_append_strs _ rfl (.tmp 104) (.tmp 107) 22 rfl w9.heap.size 9 iS _ 16 Try.underlying22 hiS sz0 sz1 sz2 rfl u16 L.length (L.map Value.string) (by rfl) (HOR.out _ (((Below.refl wb.heap.size wb).drew).alloc (Nat.le_refl _) _)) (.slice (some ⟨wb.heap.size, 0, none⟩) 1 1) [s.name] (by rfl) (strs_one (heap_alloc_new wb.drew _) (by unfold maxLen; omega)) (by unfold maxLen; simp; omega) (by simp; omega) (by simp; omega) ?_
               intro vS wS hownS hgrS hatS
               have hgk : ∀ k, k < wb.heap.size → some k ≠ u16.ownBlock → wS.heap[k]? = wb.heap[k]? := fun k hk hne => (hgrS.block k (by simp; omega) hne).trans (heap_alloc_old wb.drew _ k hk)
               obtain ⟨q0, q1⟩ := HCB.out wS hgk
               have hbS : Below w9.heap.size w9 wS := ((HBB.out.drew).alloc hbase _).grown hgrS (by simp; omega) (fun g hg => (HOW.out.lt g hg).1)
               have hnS : StrsX (fun b => some b ≠ vS.ownBlock) wS (.slice na s.names.length nc) s.names := strs_turn (HNB.out.later (((Below.refl wb.heap.size wb).drew).alloc (Nat.le_refl _) _)) hgrS hatS
               have hdS := nds_turn (HDB.out.later (((Below.refl wb.heap.size wb).drew).alloc (Nat.le_refl _) _)) hgrS hatS
               have hszS : wb.heap.size ≤ wS.heap.size := (by have := hgrS.size; simp at this; omega))
            | (refine step_append_strs _ rfl (.tmp 108) (.tmp 110) 22 rfl w9.heap.size 9 iS _ 16 Try.underlying22 hiS sz0 sz1 sz2 rfl vS (L.length + [s.name].length) (L.map Value.string ++ [s.name].map Value.string) (by rfl) hownS (.slice na s.names.length nc) s.names (by rfl) hnS (by unfold maxLen; simp; omega) (by simp; omega) hbS.size ?_
               intro vT wT hownT hgrT hatT
               obtain ⟨r0, r1⟩ := HCB.out wT (fun k hk hne => (hgrT.block k (by omega) (fun e => by
                 rcases hatS with h | ⟨g, h, hg⟩
                 · exact hne (e.trans h)
                 · rw [h] at e
                   injection e with e
                   simp at hg
                   omega)).trans (hgk k hk hne))
               have hbT : Below w9.heap.size w9 wT := hbS.grown hgrT hbS.size (fun g hg => (hownS.lt g hg).1)
               have hdT := nds_turn hdS hgrT hatT))
        have HOT := Lib.hid hownT
        have HDT := Lib.hid hdT
        have HBT := Lib.hid hbT
        clear hownT hdT hbT hownS hgrS hatS hgk hbS hnS hdS hszS hgrT hatT p0 p1 q0 q1 r0 r1 HCB HOR
        go_wp2_with fail
        go_roundg (ND.length - (i + 1))
        case measure => rw [HGG.out]; omega
        case rel =>
          have hltb := HLT.out
          have hA : A0 ++ flatN (ND.take (i + 1)) = L ++ (s.name :: s.names) := by rw [HT.out, ← List.append_assoc, HLL.out]
          refine ⟨i + 1, rfl, by omega, by go_num, ?_, HDT.out, HBT.out⟩
          rw [hA]
          have e1 : (L ++ (s.name :: s.names)).length = L.length + [s.name].length + s.names.length := by simp; omega
          have e2 : (L ++ (s.name :: s.names)).map Value.string = L.map Value.string ++ [s.name].map Value.string ++ s.names.map Value.string := by simp
          rw [e1, e2]
          exact HOT.out
      · have : i = ND.length := by omega
        subst this
        have HTL : Hid (ND.take ND.length = ND) := Lib.hid List.take_length
        rw [HTL.out] at HOW
        have hAS : ∀ s, s ∈ A0 ++ flatN ND → s.size ≤ 5000 := fun s hs => by
          rcases List.mem_append.1 hs with hs | hs
          · exact HA0S.out s hs
          · exact flatN_size HND0.out s hs
        have hAl : (A0 ++ flatN ND).length ≤ 3000 := by
          have h1 := flatN_len ND HND9.out
          have h3 := HA0L.out
          rw [List.length_append]
          omega
        have hA := strs_own (Q := fun _ => True) HOW.out (fun _ _ => trivial) fun s hs => Nat.le_trans (hAS s hs) (by unfold maxLen; omega)
        generalize hAA : A0 ++ flatN ND = A at *
        have HAF := Lib.hid hAA
        obtain ⟨aa, ac, rfl, -⟩ := id hA
        have HA := Lib.hid hA
        have HAS := Lib.hid hAS
        clear hA hAS hAA HOW HND
        go_wp2_with fail
        go_loopg [15, 115] A.length (fun gg s15 s115 wx => ∃ (i : Nat) (O : ByteArray), gg = A.length - i ∧ i ≤ A.length ∧ s115 = .int .i64 (i : Int) ∧ s15 = .string O ∧ O.size ≤ 5002 ∧ wx = wr)
        case atStart => exact ⟨0, _, rfl, by omega, rfl, rfl, by show 2 ≤ 5002; omega, rfl⟩
        case round =>
          obtain ⟨i, O, hg, hi, rfl, rfl, hO, hwx⟩ := hrel
          rename World => wx
          obtain rfl := hwx
          have HGG := Lib.hid hg
          clear hg
          by_cases hlt' : i < A.length
          · have HLT := Lib.hid hlt'
            obtain ⟨b, o, rfl, c0⟩ := strs_cell HA.out i hlt'
            have hs5 := HAS.out _ (List.getElem_mem hlt')
            generalize A[i] = s at *
            by_cases hge : O.size ≤ s.size
            · have hd : decide ((O.size : Int) ≤ (s.size : Int)) = true := decide_eq_true (by omega)
              go_wp2_with fail
              go_roundg (A.length - (i + 1))
              case measure => rw [HGG.out]; have := HLT.out; omega
              case rel =>
                have hltb := HLT.out
                exact ⟨i + 1, ⟨#[90, 122]⟩ ++ s, rfl, by omega, by go_num, rfl, by rw [ByteArray.size_append]; show 2 + s.size ≤ 5002; omega, rfl⟩
            · have hd : decide ((O.size : Int) ≤ (s.size : Int)) = false := decide_eq_false (by omega)
              go_wp2_with fail
              go_roundg (A.length - (i + 1))
              case measure => rw [HGG.out]; have := HLT.out; omega
              case rel =>
                have hltb := HLT.out
                exact ⟨i + 1, O, rfl, by omega, by go_num, rfl, hO, rfl⟩
          · have : i = A.length := by omega
            subst this
            have HBw := Lib.hid (HB9.out.trans (HB.out.mono HB9.out.size))
            by_cases h64 : 64 < O.size
            · have hd : decide ((64 : Int) < (O.size : Int)) = true := decide_eq_true (by omega)
              go_wp2_with fail
              go_ret
              exact ⟨rfl, HBw.out⟩
            · have hd : decide ((64 : Int) < (O.size : Int)) = false := decide_eq_false (by omega)
              go_wp2_with fail
              go_loopg [132] A.length (fun gg s132 wy => ∃ (i : Nat), gg = A.length - i ∧ i ≤ A.length ∧ s132 = .int .i64 (i : Int) ∧ (∀ y, y ∈ A.take i → y ≠ O) ∧ wy = wx)
              case atStart => exact ⟨0, rfl, by omega, rfl, fun y hy => by simp at hy, rfl⟩
              case round =>
                obtain ⟨i, hg, hi, rfl, hne, hwy⟩ := hrel
                rename World => wy
                obtain rfl := hwy
                have HGG := Lib.hid hg
                have HNE := Lib.hid hne
                clear hg hne
                by_cases hlt' : i < A.length
                · have HLT := Lib.hid hlt'
                  obtain ⟨b, o, rfl, c0⟩ := strs_cell HA.out i hlt'
                  have HT := Lib.hid (show A.take (i + 1) = A.take i ++ [A[i]] by rw [List.take_add_one, List.getElem?_eq_getElem hlt']; rfl)
                  generalize A[i] = s at *
                  cases he : (s.toList == O.toList)
                  · have hsO : s ≠ O := fun e => by rw [e] at he; simp at he
                    have HSO := Lib.hid hsO
                    clear hsO
                    go_wp2_with fail
                    go_roundg (A.length - (i + 1))
                    case measure => rw [HGG.out]; have := HLT.out; omega
                    case rel =>
                      have hltb := HLT.out
                      refine ⟨i + 1, rfl, by omega, by go_num, fun y hy => ?_, rfl⟩
                      rw [HT.out] at hy
                      rcases List.mem_append.1 hy with hy | hy
                      · exact HNE.out y hy
                      · obtain rfl : y = s := by simpa using hy
                        exact HSO.out
                  · go_wp2_with fail
                    go_ret
                    exact ⟨rfl, HBw.out⟩
                · have : i = A.length := by omega
                  subst this
                  rw [List.take_length] at HNE
                  have hO : O.size ≤ 64 := by omega
                  have hOm : O.size ≤ maxLen := by unfold maxLen; omega
                  have hbxx : bx < wy.heap.size := by have := HB.out.size; omega
                  have hbcx : bc < wy.heap.size := by have := HB.out.size; omega
                  have hps : ∀ s, s ∈ ps' → s ≠ O := fun s hs => HNE.out s (by rw [← HAF.out, ← HAA.out]; exact List.mem_append_left _ (List.mem_cons_of_mem _ (List.mem_append_left _ hs)))
                  have hts : ∀ s, s ∈ ts' → s ≠ O := fun s hs => HNE.out s (by rw [← HAF.out, ← HAA.out]; exact List.mem_append_left _ (List.mem_cons_of_mem _ (List.mem_append_right _ hs)))
                  have hno : noL O 60 l' := noL_all 60 l' fun n hn => by
                    rw [HAL.out] at hn
                    refine ⟨HNE.out _ ?_, fun s hs => HNE.out s ?_⟩
                    · rw [← HAF.out]
                      exact List.mem_append_right _ (List.mem_flatMap.2 ⟨n, hn, List.mem_cons_self⟩)
                    · rw [← HAF.out]
                      exact List.mem_append_right _ (List.mem_flatMap.2 ⟨n, hn, List.mem_cons_of_mem _ hs⟩)
                  have HRX := Lib.hid (show resolveM (F' ++ [O]) (O :: G') 59 nm ps' ts' pr l' = some (its, sl) by rw [resolveM_last hps hts hno]; exact HX.out)
                  have HSMI := Lib.hid (resolve_sm HX.out HLN.out)
                  have XX := Lib.hid ((HB.out.block bx hx9).trans X9.out)
                  have CX := Lib.hid ((HB.out.block bc (by omega)).trans C9.out)
                  have IX := Lib.hid (HI9.out.later HB.out)
                  have FX := Lib.hid ((HF9.out.later HB.out).weak (y := fun _ => True) fun _ _ => trivial)
                  have GX := Lib.hid ((HG9.out.later HB.out).weak (y := fun _ => True) fun _ _ => trivial)
                  have PX := Lib.hid ((HP9.out.later HB.out).weak (y := fun _ => True) fun _ _ => trivial)
                  have TX := Lib.hid ((HT9.out.later HB.out).weak (y := fun _ => True) fun _ _ => trivial)
                  have NX := Lib.hid ((HN9.out.later HB.out).weak (y := fun _ => True) fun _ _ => trivial)
                  clear hps hts hno HNE HA HAS
                  go_upto_region 36 with fail
                  refine region36 (c0 := .string nm) (c1 := .slice pa6 ps'.length pc6) (c2 := .slice ta6 ts'.length tc6) (c3 := .int .i64 pr) (c4 := .slice va6 l'.length vc6) (c5 := .int .i64 at_) (fv := .slice ua F'.length uc) (gv := .slice xa G'.length xc) (O := O) (F := F') (G := G') (bx := bx) (nm := nm) (k1 := (ps'.length : Int)) (k2 := (sl : Int)) (k3 := pr) (its := its)
                    ⟨rfl, rfl, rfl, rfl, rfl, XX.out, FX.out, GX.out, hOm, hul, hxl, fun W fv' gv' hW hf' hg' => ?_, fun c a w d v h => by cases d <;> exact h, fun tm W E aa9 ac9 fr h14 h23 hE hit hbl hEw => ?_⟩ ⟨rfl, rfl, rfl, rfl, rfl, rfl⟩
                  · have hr := resolve_any (fun _ => True) 59 nm _ _ ps' ts' pr _ fv' gv' at_ l' (F' ++ [O]) (O :: G') W (by omega) (PX.out.later hW) (TX.out.later hW) (NX.out.later hW) hf' hg' (by rw [List.length_append]; simp; omega) HLN.out
                    rw [HRX.out] at hr
                    refine hr.mono ?_
                    rintro e w' ⟨⟨v', rfl, hi⟩, hb⟩
                    obtain ⟨a', c', rfl, -⟩ := id hi.shape
                    exact ⟨_, rfl, a', c', rfl, hi.weak fun _ _ => trivial, hb⟩
                  · obtain ⟨u24, u140, u141, u142, u143, u144, u145, u146, u147, u148, u149, u150, u151, u152, u153, u154, u155, htm⟩ := fr.canon rfl h14 h23
                    clear fr h14 h23
                    rw [htm]
                    clear htm
                    simp only [List.setIfInBounds_toArray, List.set_cons_zero, List.set_cons_succ]
                    have CW := Lib.hid ((hbl.block bc hbcx).trans CX.out)
                    have EW := Lib.hid hE
                    have IW := Lib.hid ((IX.out.later hbl).weak (y := fun _ => True) fun _ _ => trivial)
                    have JW := Lib.hid (hit.weak (y := fun _ => True) fun _ _ => trivial)
                    have HW := Lib.hid (HB9.out.trans ((HB.out.trans (hbl.mono HB.out.size)).mono HB9.out.size))
                    have HWX := Lib.hid hbl
                    have hEl := lt_heap hE
                    have hbl2 : bc < W.heap.size := by have := hbl.size; omega
                    clear hE hit hbl
                    have HCB := Lib.hid (show ∀ w', Below W.heap.size W w' → w'.cell? ⟨bc, 0, none⟩ = some (.string nm) ∧ w'.cell? ⟨bc, 1, none⟩ = some (.int .i64 (ps'.length : Int)) ∧ w'.cell? ⟨bc, 2, none⟩ = some (.int .i64 (sl : Int)) ∧ w'.cell? ⟨bc, 3, none⟩ = some (.int .i64 pr) ∧ w'.cell? ⟨bc, 4, none⟩ = some (.slice a8 its.length c8) ∧ w'.cell? ⟨E, 0, none⟩ = some (.string nm) ∧ w'.cell? ⟨E, 1, none⟩ = some (.int .i64 (ps'.length : Int)) ∧ w'.cell? ⟨E, 2, none⟩ = some (.int .i64 (sl : Int)) ∧ w'.cell? ⟨E, 3, none⟩ = some (.int .i64 pr) ∧ w'.cell? ⟨E, 4, none⟩ = some (.slice aa9 its.length ac9) from fun W' hW => by
                      have a0 := (hW.block bc hbl2).trans CW.out
                      have a1 := (hW.block E hEl).trans EW.out
                      exact ⟨cell_of_row W' _ _ _ _ _ a0, cell_of_row W' _ _ _ _ _ a0, cell_of_row W' _ _ _ _ _ a0, cell_of_row W' _ _ _ _ _ a0, cell_of_row W' _ _ _ _ _ a0, cell_of_row W' _ _ _ _ _ a1, cell_of_row W' _ _ _ _ _ a1, cell_of_row W' _ _ _ _ _ a1, cell_of_row W' _ _ _ _ _ a1, cell_of_row W' _ _ _ _ _ a1⟩)
                    have TC := Lib.hid (show ∀ W', Below W.heap.size W W' → Calls Try.prog 9 #[.agg #[.string nm, .int .i64 (ps'.length : Int), .int .i64 (sl : Int), .int .i64 pr, .slice a8 its.length c8]] W' fun e w' => ∃ v', e = .returned (.agg #[.string nm, .int .i64 (ps'.length : Int), .int .i64 (sl : Int), .int .i64 pr, v']) ∧ ItsX 76 (fun b => W'.heap.size ≤ b) 60 w' v' its ∧ Below W'.heap.size W' w' from fun W' hW => told_any _ 60 nm _ _ _ _ its W' (IW.out.later hW) HSMI.out)
                    have TD := Lib.hid (show ∀ W', Below W.heap.size W W' → Calls Try.prog 9 #[.agg #[.string nm, .int .i64 (ps'.length : Int), .int .i64 (sl : Int), .int .i64 pr, .slice aa9 its.length ac9]] W' fun e w' => ∃ v', e = .returned (.agg #[.string nm, .int .i64 (ps'.length : Int), .int .i64 (sl : Int), .int .i64 pr, v']) ∧ ItsX 76 (fun b => W'.heap.size ≤ b) 60 w' v' its ∧ Below W'.heap.size W' w' from fun W' hW => told_any _ 60 nm _ _ _ _ its W' (JW.out.later hW) HSMI.out)
                    have SM := Lib.hid (show ∀ W' a c b d (x y : Nat → Prop), ItsX 76 x 60 W' (.slice a its.length c) its → ItsX 76 y 60 W' (.slice b its.length d) its → Calls Try.prog 8 #[.agg #[.string nm, .int .i64 (ps'.length : Int), .int .i64 (sl : Int), .int .i64 pr, .slice a its.length c], .agg #[.string nm, .int .i64 (ps'.length : Int), .int .i64 (sl : Int), .int .i64 pr, .slice b its.length d]] W' fun e w' => e = .returned (.bool true) ∧ Below W'.heap.size W' w' from fun W' a c b d x y h1 h2 => same_any 76 x y 60 nm _ _ _ _ _ its W' h1 h2)
                    have k0 : Below W.heap.size W W := Below.refl _ _
                    obtain ⟨p0, p1, p2, p3, p4, p5, p6, p7, p8, p9⟩ := HCB.out W.drew (Below.refl _ _).drew
                    go_upto_region 37 with fail
                    go_region_held3 (fun w' => w'.cell? ⟨bc, 0, none⟩ = some (.string nm) ∧ w'.cell? ⟨bc, 1, none⟩ = some (.int .i64 (ps'.length : Int)) ∧ w'.cell? ⟨bc, 2, none⟩ = some (.int .i64 (sl : Int)) ∧ w'.cell? ⟨bc, 3, none⟩ = some (.int .i64 pr) ∧ w'.cell? ⟨bc, 4, none⟩ = some (.slice a8 its.length c8) ∧ w'.cell? ⟨E, 0, none⟩ = some (.string nm) ∧ w'.cell? ⟨E, 1, none⟩ = some (.int .i64 (ps'.length : Int)) ∧ w'.cell? ⟨E, 2, none⟩ = some (.int .i64 (sl : Int)) ∧ w'.cell? ⟨E, 3, none⟩ = some (.int .i64 pr) ∧ w'.cell? ⟨E, 4, none⟩ = some (.slice aa9 its.length ac9))
                      (first | with_reducible exact ⟨p0, p1, p2, p3, p4, p5, p6, p7, p8, p9⟩ | (refine HCB.out _ ?_; repeat (first | with_reducible exact Below.refl _ _ | ((with_reducible refine Below.setCell ?_ ?_ _); rotate_left; focus (first | (simp; done) | (simp; omega) | omega)) | ((with_reducible refine Below.alloc ?_ ?_ _); rotate_left; focus (first | (simp; done) | (simp; omega) | omega)) | (with_reducible refine Below.drew ?_) | ((with_reducible refine Below.trans ?_ (Below.mono hbC ?_)); rotate_left; focus (first | (simp; done) | (simp; omega) | omega)) | ((with_reducible refine Below.trans ?_ (Below.mono hbD ?_)); rotate_left; focus (first | (simp; done) | (simp; omega) | omega)) | ((with_reducible refine Below.trans ?_ (Below.mono hbS ?_)); rotate_left; focus (first | (simp; done) | (simp; omega) | omega)) | ((with_reducible refine Below.trans ?_ (Below.mono k0 ?_)); rotate_left; focus (first | (simp; done) | (simp; omega) | omega)))))
                      (first
                        | (go_at_call 9
                           with_reducible refine (TC.out _ ?_).mono ?_
                           · repeat (first | with_reducible exact Below.refl _ _ | ((with_reducible refine Below.setCell ?_ ?_ _); rotate_left; focus (first | (simp; done) | (simp; omega) | omega)) | ((with_reducible refine Below.alloc ?_ ?_ _); rotate_left; focus (first | (simp; done) | (simp; omega) | omega)) | (with_reducible refine Below.drew ?_) | ((with_reducible refine Below.trans ?_ (Below.mono hbD ?_)); rotate_left; focus (first | (simp; done) | (simp; omega) | omega)) | ((with_reducible refine Below.trans ?_ (Below.mono k0 ?_)); rotate_left; focus (first | (simp; done) | (simp; omega) | omega)))
                           rintro e wC ⟨vC, rfl, hC, hbC⟩
                           obtain ⟨aC, cC, rfl, -⟩ := id hC.shape
                           have zC := hbC.size
                           have HC := Lib.hid hC
                           clear hC
                           (try simp at zC))
                        | (go_at_call 9
                           with_reducible refine (TD.out _ ?_).mono ?_
                           · repeat (first | with_reducible exact Below.refl _ _ | ((with_reducible refine Below.setCell ?_ ?_ _); rotate_left; focus (first | (simp; done) | (simp; omega) | omega)) | ((with_reducible refine Below.alloc ?_ ?_ _); rotate_left; focus (first | (simp; done) | (simp; omega) | omega)) | (with_reducible refine Below.drew ?_) | ((with_reducible refine Below.trans ?_ (Below.mono hbC ?_)); rotate_left; focus (first | (simp; done) | (simp; omega) | omega)) | ((with_reducible refine Below.trans ?_ (Below.mono k0 ?_)); rotate_left; focus (first | (simp; done) | (simp; omega) | omega)))
                           rintro e wD ⟨vD, rfl, hD, hbD⟩
                           obtain ⟨aD, cD, rfl, -⟩ := id hD.shape
                           have zD := hbD.size
                           have HDD := Lib.hid hD
                           clear hD
                           (try simp at zD))
                        | (go_at_call 8
                           refine (SM.out _ _ _ _ _ _ _ (HC.out.later ?_) (HDD.out.later ?_)).mono ?_
                           · repeat (first | with_reducible exact Below.refl _ _ | ((with_reducible refine Below.setCell ?_ ?_ _); rotate_left; focus (first | (simp; done) | (simp; omega) | omega)) | ((with_reducible refine Below.alloc ?_ ?_ _); rotate_left; focus (first | (simp; done) | (simp; omega) | omega)) | (with_reducible refine Below.drew ?_) | ((with_reducible refine Below.trans ?_ (Below.mono hbC ?_)); rotate_left; focus (first | (simp; done) | (simp; omega) | omega)) | ((with_reducible refine Below.trans ?_ (Below.mono hbD ?_)); rotate_left; focus (first | (simp; done) | (simp; omega) | omega)) | ((with_reducible refine Below.trans ?_ (Below.mono k0 ?_)); rotate_left; focus (first | (simp; done) | (simp; omega) | omega)))
                           · repeat (first | with_reducible exact Below.refl _ _ | ((with_reducible refine Below.setCell ?_ ?_ _); rotate_left; focus (first | (simp; done) | (simp; omega) | omega)) | ((with_reducible refine Below.alloc ?_ ?_ _); rotate_left; focus (first | (simp; done) | (simp; omega) | omega)) | (with_reducible refine Below.drew ?_) | ((with_reducible refine Below.trans ?_ (Below.mono hbC ?_)); rotate_left; focus (first | (simp; done) | (simp; omega) | omega)) | ((with_reducible refine Below.trans ?_ (Below.mono hbD ?_)); rotate_left; focus (first | (simp; done) | (simp; omega) | omega)) | ((with_reducible refine Below.trans ?_ (Below.mono k0 ?_)); rotate_left; focus (first | (simp; done) | (simp; omega) | omega)))
                           rintro e wS ⟨rfl, hbS⟩
                           have zS := hbS.size))
                    have hbz : Below W.heap.size W wS := by repeat (first | with_reducible exact Below.refl _ _ | ((with_reducible refine Below.setCell ?_ ?_ _); rotate_left; focus (first | (simp; done) | (simp; omega) | omega)) | ((with_reducible refine Below.alloc ?_ ?_ _); rotate_left; focus (first | (simp; done) | (simp; omega) | omega)) | (with_reducible refine Below.drew ?_) | ((with_reducible refine Below.trans ?_ (Below.mono hbC ?_)); rotate_left; focus (first | (simp; done) | (simp; omega) | omega)) | ((with_reducible refine Below.trans ?_ (Below.mono hbD ?_)); rotate_left; focus (first | (simp; done) | (simp; omega) | omega)) | ((with_reducible refine Below.trans ?_ (Below.mono hbS ?_)); rotate_left; focus (first | (simp; done) | (simp; omega) | omega)) | ((with_reducible refine Below.trans ?_ (Below.mono k0 ?_)); rotate_left; focus (first | (simp; done) | (simp; omega) | omega)))
                    have hbq : Below wy.heap.size wy wS := HWX.out.trans (hbz.mono HWX.out.size)
                    have HBZ := Lib.hid hbq
                    have HWS := Lib.hid (HW.out.trans (hbz.mono HW.out.size))
                    have xr := (hbq.block bx hbxx).trans XX.out
                    have n0 := cell_of_row wS bx 0 _ _ _ xr
                    have n1 := cell_of_row wS bx 1 _ _ _ xr
                    have n2 := cell_of_row wS bx 2 _ _ _ xr
                    have n3 := cell_of_row wS bx 3 _ _ _ xr
                    have n4 := cell_of_row wS bx 4 _ _ _ xr
                    have n5 := cell_of_row wS bx 5 _ _ _ xr
                    simp at n0 n1 n2 n3 n4 n5
                    have RB := Lib.hid (resolve_any (fun _ => True) 59 nm _ _ ps' ts' pr _ _ _ at_ l' F' G' wS (by omega) (PX.out.later hbq) (TX.out.later hbq) (NX.out.later hbq) (FX.out.later hbq) (GX.out.later hbq) (by omega) HLN.out)
                    rw [HX.out] at RB
                    have cr := Lib.hid ((hbq.block bc hbcx).trans CX.out)
                    have hbcs : bc < wS.heap.size := by have := hbq.size; omega
                    have IS := Lib.hid ((IX.out.later hbq).weak (y := fun _ => True) fun _ _ => trivial)
                    clear p0 p1 p2 p3 p4 p5 p6 p7 p8 p9 hbC hbD hbS k0 hbz hbq xr HC HDD TC TD HCB zC zD
                    go_wp2_with fail
                    refine RB.out.mono ?_
                    rintro e wR ⟨⟨vb, rfl, hib⟩, hbb⟩
                    obtain ⟨ab, cb, rfl, -⟩ := id hib.shape
                    have zb := hbb.size
                    unfold codeV
                    go_upto_region 40 with fail
                    have hbT : Below wS.heap.size wS (wR.alloc (.cells #[.string nm, .int .i64 (ps'.length : Int), .int .i64 (sl : Int), .int .i64 pr, .slice ab its.length cb] 35)) := hbb.alloc (by omega) _
                    have gT := heap_alloc_new wR (.cells #[.string nm, .int .i64 (ps'.length : Int), .int .i64 (sl : Int), .int .i64 pr, .slice ab its.length cb] 35)
                    have zT : wR.heap.size < (wR.alloc (.cells #[.string nm, .int .i64 (ps'.length : Int), .int .i64 (sl : Int), .int .i64 pr, .slice ab its.length cb] 35)).heap.size := by simp
                    have hcT : Below wR.heap.size wR (wR.alloc (.cells #[.string nm, .int .i64 (ps'.length : Int), .int .i64 (sl : Int), .int .i64 pr, .slice ab its.length cb] 35)) := (Below.refl _ _).alloc (Nat.le_refl _) _
                    generalize (wR.alloc (.cells #[.string nm, .int .i64 (ps'.length : Int), .int .i64 (sl : Int), .int .i64 pr, .slice ab its.length cb] 35)) = wT at *
                    have IB := Lib.hid ((hib.later hcT).weak (y := fun _ => True) fun _ _ => trivial)
                    have IT := Lib.hid (IS.out.later hbT)
                    have CT := Lib.hid ((hbT.block bc hbcs).trans cr.out)
                    have GT := Lib.hid gT
                    have HWT := Lib.hid (HWS.out.trans (hbT.mono HWS.out.size))
                    have hbct : bc < wT.heap.size := by omega
                    clear hib hbb hbT gT hcT n0 n1 n2 n3 n4 n5 RB
                    generalize wR.heap.size = EB at *
                    have HCB := Lib.hid (show ∀ w', Below wT.heap.size wT w' → w'.cell? ⟨EB, 0, none⟩ = some (.string nm) ∧ w'.cell? ⟨EB, 1, none⟩ = some (.int .i64 (ps'.length : Int)) ∧ w'.cell? ⟨EB, 2, none⟩ = some (.int .i64 (sl : Int)) ∧ w'.cell? ⟨EB, 3, none⟩ = some (.int .i64 pr) ∧ w'.cell? ⟨EB, 4, none⟩ = some (.slice ab its.length cb) ∧ w'.cell? ⟨bc, 0, none⟩ = some (.string nm) ∧ w'.cell? ⟨bc, 1, none⟩ = some (.int .i64 (ps'.length : Int)) ∧ w'.cell? ⟨bc, 2, none⟩ = some (.int .i64 (sl : Int)) ∧ w'.cell? ⟨bc, 3, none⟩ = some (.int .i64 pr) ∧ w'.cell? ⟨bc, 4, none⟩ = some (.slice a8 its.length c8) from fun W' hW => by
                      have a0 := (hW.block EB zT).trans GT.out
                      have a1 := (hW.block bc hbct).trans CT.out
                      exact ⟨cell_of_row W' _ _ _ _ _ a0, cell_of_row W' _ _ _ _ _ a0, cell_of_row W' _ _ _ _ _ a0, cell_of_row W' _ _ _ _ _ a0, cell_of_row W' _ _ _ _ _ a0, cell_of_row W' _ _ _ _ _ a1, cell_of_row W' _ _ _ _ _ a1, cell_of_row W' _ _ _ _ _ a1, cell_of_row W' _ _ _ _ _ a1, cell_of_row W' _ _ _ _ _ a1⟩)
                    have TB := Lib.hid (show ∀ W', Below wT.heap.size wT W' → Calls Try.prog 9 #[.agg #[.string nm, .int .i64 (ps'.length : Int), .int .i64 (sl : Int), .int .i64 pr, .slice ab its.length cb]] W' fun e w' => ∃ v', e = .returned (.agg #[.string nm, .int .i64 (ps'.length : Int), .int .i64 (sl : Int), .int .i64 pr, v']) ∧ ItsX 76 (fun b => W'.heap.size ≤ b) 60 w' v' its ∧ Below W'.heap.size W' w' from fun W' hW => told_any _ 60 nm _ _ _ _ its W' (IB.out.later hW) HSMI.out)
                    have TC := Lib.hid (show ∀ W', Below wT.heap.size wT W' → Calls Try.prog 9 #[.agg #[.string nm, .int .i64 (ps'.length : Int), .int .i64 (sl : Int), .int .i64 pr, .slice a8 its.length c8]] W' fun e w' => ∃ v', e = .returned (.agg #[.string nm, .int .i64 (ps'.length : Int), .int .i64 (sl : Int), .int .i64 pr, v']) ∧ ItsX 76 (fun b => W'.heap.size ≤ b) 60 w' v' its ∧ Below W'.heap.size W' w' from fun W' hW => told_any _ 60 nm _ _ _ _ its W' (IT.out.later hW) HSMI.out)
                    have k0 : Below wT.heap.size wT wT := Below.refl _ _
                    obtain ⟨p0, p1, p2, p3, p4, p5, p6, p7, p8, p9⟩ := HCB.out wT.drew (Below.refl _ _).drew
                    go_region_held3 (fun w' => w'.cell? ⟨EB, 0, none⟩ = some (.string nm) ∧ w'.cell? ⟨EB, 1, none⟩ = some (.int .i64 (ps'.length : Int)) ∧ w'.cell? ⟨EB, 2, none⟩ = some (.int .i64 (sl : Int)) ∧ w'.cell? ⟨EB, 3, none⟩ = some (.int .i64 pr) ∧ w'.cell? ⟨EB, 4, none⟩ = some (.slice ab its.length cb) ∧ w'.cell? ⟨bc, 0, none⟩ = some (.string nm) ∧ w'.cell? ⟨bc, 1, none⟩ = some (.int .i64 (ps'.length : Int)) ∧ w'.cell? ⟨bc, 2, none⟩ = some (.int .i64 (sl : Int)) ∧ w'.cell? ⟨bc, 3, none⟩ = some (.int .i64 pr) ∧ w'.cell? ⟨bc, 4, none⟩ = some (.slice a8 its.length c8))
                      (first | with_reducible exact ⟨p0, p1, p2, p3, p4, p5, p6, p7, p8, p9⟩ | (refine HCB.out _ ?_; repeat (first | with_reducible exact Below.refl _ _ | ((with_reducible refine Below.setCell ?_ ?_ _); rotate_left; focus (first | (simp; done) | (simp; omega) | omega)) | ((with_reducible refine Below.alloc ?_ ?_ _); rotate_left; focus (first | (simp; done) | (simp; omega) | omega)) | (with_reducible refine Below.drew ?_) | ((with_reducible refine Below.trans ?_ (Below.mono hbC ?_)); rotate_left; focus (first | (simp; done) | (simp; omega) | omega)) | ((with_reducible refine Below.trans ?_ (Below.mono hbD ?_)); rotate_left; focus (first | (simp; done) | (simp; omega) | omega)) | ((with_reducible refine Below.trans ?_ (Below.mono hbS ?_)); rotate_left; focus (first | (simp; done) | (simp; omega) | omega)) | ((with_reducible refine Below.trans ?_ (Below.mono k0 ?_)); rotate_left; focus (first | (simp; done) | (simp; omega) | omega)))))
                      (first
                        | (go_at_call 9
                           with_reducible refine (TB.out _ ?_).mono ?_
                           · repeat (first | with_reducible exact Below.refl _ _ | ((with_reducible refine Below.setCell ?_ ?_ _); rotate_left; focus (first | (simp; done) | (simp; omega) | omega)) | ((with_reducible refine Below.alloc ?_ ?_ _); rotate_left; focus (first | (simp; done) | (simp; omega) | omega)) | (with_reducible refine Below.drew ?_) | ((with_reducible refine Below.trans ?_ (Below.mono hbD ?_)); rotate_left; focus (first | (simp; done) | (simp; omega) | omega)) | ((with_reducible refine Below.trans ?_ (Below.mono k0 ?_)); rotate_left; focus (first | (simp; done) | (simp; omega) | omega)))
                           rintro e wC ⟨vC, rfl, hC, hbC⟩
                           obtain ⟨aC, cC, rfl, -⟩ := id hC.shape
                           have zC := hbC.size
                           have HC := Lib.hid hC
                           clear hC
                           (try simp at zC))
                        | (go_at_call 9
                           with_reducible refine (TC.out _ ?_).mono ?_
                           · repeat (first | with_reducible exact Below.refl _ _ | ((with_reducible refine Below.setCell ?_ ?_ _); rotate_left; focus (first | (simp; done) | (simp; omega) | omega)) | ((with_reducible refine Below.alloc ?_ ?_ _); rotate_left; focus (first | (simp; done) | (simp; omega) | omega)) | (with_reducible refine Below.drew ?_) | ((with_reducible refine Below.trans ?_ (Below.mono hbC ?_)); rotate_left; focus (first | (simp; done) | (simp; omega) | omega)) | ((with_reducible refine Below.trans ?_ (Below.mono k0 ?_)); rotate_left; focus (first | (simp; done) | (simp; omega) | omega)))
                           rintro e wD ⟨vD, rfl, hD, hbD⟩
                           obtain ⟨aD, cD, rfl, -⟩ := id hD.shape
                           have zD := hbD.size
                           have HDD := Lib.hid hD
                           clear hD
                           (try simp at zD))
                        | (go_at_call 8
                           refine (SM.out _ _ _ _ _ _ _ (HC.out.later ?_) (HDD.out.later ?_)).mono ?_
                           · repeat (first | with_reducible exact Below.refl _ _ | ((with_reducible refine Below.setCell ?_ ?_ _); rotate_left; focus (first | (simp; done) | (simp; omega) | omega)) | ((with_reducible refine Below.alloc ?_ ?_ _); rotate_left; focus (first | (simp; done) | (simp; omega) | omega)) | (with_reducible refine Below.drew ?_) | ((with_reducible refine Below.trans ?_ (Below.mono hbC ?_)); rotate_left; focus (first | (simp; done) | (simp; omega) | omega)) | ((with_reducible refine Below.trans ?_ (Below.mono hbD ?_)); rotate_left; focus (first | (simp; done) | (simp; omega) | omega)) | ((with_reducible refine Below.trans ?_ (Below.mono k0 ?_)); rotate_left; focus (first | (simp; done) | (simp; omega) | omega)))
                           · repeat (first | with_reducible exact Below.refl _ _ | ((with_reducible refine Below.setCell ?_ ?_ _); rotate_left; focus (first | (simp; done) | (simp; omega) | omega)) | ((with_reducible refine Below.alloc ?_ ?_ _); rotate_left; focus (first | (simp; done) | (simp; omega) | omega)) | (with_reducible refine Below.drew ?_) | ((with_reducible refine Below.trans ?_ (Below.mono hbC ?_)); rotate_left; focus (first | (simp; done) | (simp; omega) | omega)) | ((with_reducible refine Below.trans ?_ (Below.mono hbD ?_)); rotate_left; focus (first | (simp; done) | (simp; omega) | omega)) | ((with_reducible refine Below.trans ?_ (Below.mono k0 ?_)); rotate_left; focus (first | (simp; done) | (simp; omega) | omega)))
                           rintro e wZ ⟨rfl, hbS⟩
                           have zS2 := hbS.size))
                    have HFIN := Lib.hid (show Below w.heap.size w wZ from HWT.out.trans (Below.mono (show Below wT.heap.size wT wZ by repeat (first | with_reducible exact Below.refl _ _ | ((with_reducible refine Below.setCell ?_ ?_ _); rotate_left; focus (first | (simp; done) | (simp; omega) | omega)) | ((with_reducible refine Below.alloc ?_ ?_ _); rotate_left; focus (first | (simp; done) | (simp; omega) | omega)) | (with_reducible refine Below.drew ?_) | ((with_reducible refine Below.trans ?_ (Below.mono hbC ?_)); rotate_left; focus (first | (simp; done) | (simp; omega) | omega)) | ((with_reducible refine Below.trans ?_ (Below.mono hbD ?_)); rotate_left; focus (first | (simp; done) | (simp; omega) | omega)) | ((with_reducible refine Below.trans ?_ (Below.mono hbS ?_)); rotate_left; focus (first | (simp; done) | (simp; omega) | omega)) | ((with_reducible refine Below.trans ?_ (Below.mono k0 ?_)); rotate_left; focus (first | (simp; done) | (simp; omega) | omega)))) HWT.out.size))
                    clear p0 p1 p2 p3 p4 p5 p6 p7 p8 p9 hbC hbD hbS k0 HCB TB TC
                    go_wp2_with fail
                    go_ret
                    exact ⟨rfl, HFIN.out⟩
end Go.Proofs.Ytpfgidhchjcomaa.means
