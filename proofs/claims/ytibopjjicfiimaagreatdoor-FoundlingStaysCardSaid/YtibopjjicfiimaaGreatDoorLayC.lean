/- The document's heap: how much is used; an object by its pointer. The document's heap: an object by its pointer; may a word of it be? The document's heap: the list and an object are copies of their own. The document's heap: another word. The document's heap: an empty one; a new object. Both heaps of a graph are the same objects: the plain law. What an object's next word leads to. What stands in memory while a graph is laid. -/
import Derived.Test.YtibopjjicfiimaaGreatDoorRefHeap
import Derived.Test.YtibopjjicfiimaaGreatDoorHeadD
import Derived.Test.YtibopjjicfiimaaGreatDoorLater
import Derived.Test.YtibopjjicfiimaaGreatDoorHeapPut
import Derived.BigQuiet
import Derived.Deep.RegionHeld3
import Derived.Deep.RegionLaw
import Derived.Deep.AppendLies
import Derived.Laws.OwnMore
import Derived.Laws.AppendOwnNone
namespace Go.Proofs.YtibopjjicfiimaaGreatDoor
open Go.RowKit
set_option linter.unusedVariables false
def cellsR (o : RO) : Nat := (cellsZ (o.cls : Int) o.kind 3 0).toNat
/-- the place of the first free cell -/
def usedR (os : List RO) : Nat := match os.getLast? with
  | none => 2
  | some o => o.at_ + 2 + cellsR o
theorem cellsR_bd (o : RO) : cellsR o ≤ 1048576 := by
  have := cellsZ_bd (o.cls : Int) o.kind 3 0
  unfold cellsR; omega
set_option maxRecDepth 100000 in
theorem rused_any (C : Nat) (cells : Int) (lv : Value) (os : List RO) (w : World) (h : RObjs C w lv os) (hb : ∀ o, o ∈ os → o.at_ ≤ 1000000) :
    Calls Tryz.prog 47 #[.agg #[.int .i64 cells, lv, .int .u32 0]] w fun e w' => e = .returned (.int .i64 (usedR os : Int)) ∧ Below w.heap.size w w' := by
  obtain ⟨a, cap, rfl, h1, h2, h3⟩ := h.get
  unfold maxLen at h2
  by_cases h0 : os.length = 0
  · have : os = [] := List.eq_nil_of_length_eq_zero h0
    subst this
    rw [List.length_nil]
    clear h3 h
    go_enter Tryz.func47, Tryz.ntmps47
    go_wp2_with fail
    go_ret
    refine ⟨rfl, ?_⟩
    repeat (first | with_reducible exact Below.refl _ _ | ((with_reducible refine Below.setCell ?_ ?_ _); rotate_left; focus (first | (simp; done) | (simp; omega) | omega)) | ((with_reducible refine Below.alloc ?_ ?_ _); rotate_left; focus (first | (simp; done) | (simp; omega) | omega)) | (with_reducible refine Below.drew ?_))
  · obtain ⟨n, hn⟩ : ∃ n, os.length = n + 1 := ⟨os.length - 1, by omega⟩
    obtain ⟨o, hlast⟩ : ∃ o, os[n]? = some o := ⟨_, List.getElem?_eq_getElem (by omega)⟩
    obtain ⟨b, q, wv, bv, rfl, hbl, c0, c1, c2, c3, c4, c5, c6, c7, c8, c9⟩ := h3 n o hlast
    have hu : usedR os = o.at_ + 2 + cellsR o := by
      unfold usedR
      rw [List.getLast?_eq_getElem?, show os.length - 1 = n by omega, hlast]
    have hat := hb o (List.mem_of_getElem? hlast)
    have hcl := cellsR_bd o
    have hcz := cellsZ_bd (o.cls : Int) o.kind 3 0
    have RC := Lib.hid (fun W => rcells_any (o.cls : Int) o.kind 3 0 false (by omega) (by omega) W)
    rw [show cellsZ (o.cls : Int) o.kind 3 0 = (cellsR o : Int) by unfold cellsR; omega] at RC
    obtain ⟨wa, wc, rfl, -⟩ := c8
    obtain ⟨ba, bc, rfl, -⟩ := c9.1
    rw [hu]
    generalize cellsR o = cr at *
    obtain ⟨at_, cls, kind, words, bytes⟩ := o
    dsimp only at *
    rw [hn]
    rw [hn] at h1
    clear hu h3 h hlast hb hcz hn h0
    go_enter Tryz.func47, Tryz.ntmps47
    go_wp2_with fail
    all_goals (try (exfalso; go_light; omega))
    obtain ⟨w1, hw1⟩ : ∃ w1, w1 = w.alloc (.cells #[.int .i64 cells, .slice (some ⟨b, q, none⟩) (n + 1) cap, .int .u32 0] 29) := ⟨_, rfl⟩
    have hb1 : Below w.heap.size w w1 := by rw [hw1]; exact (Below.refl _ w).alloc (Nat.le_refl _) _
    have hs1 : w1.heap.size = w.heap.size + 1 := by rw [hw1]; simp
    rw [← hw1, ← hs1]
    obtain ⟨w2, hw2⟩ : ∃ w2, w2 = w1.alloc (.cells #[.int .i64 (at_ : Int), .int .u64 (cls : Int), .int .i64 kind, .int .i64 3, .int .u32 0, .bool false, .slice wa words.length wc, .slice ba bytes.length bc] 65) := ⟨_, rfl⟩
    have hx := heap_alloc_new w1 (.cells #[.int .i64 (at_ : Int), .int .u64 (cls : Int), .int .i64 kind, .int .i64 3, .int .u32 0, .bool false, .slice wa words.length wc, .slice ba bytes.length bc] 65)
    rw [← hw2] at hx ⊢
    have hb2 : Below w.heap.size w w2 := by rw [hw2]; exact hb1.alloc hb1.size _
    have hlt : w1.heap.size < w2.heap.size := (Array.getElem?_eq_some_iff.1 hx).1
    have x0 := cellO hx 0
    have x1 := cellO hx 1
    have x2 := cellO hx 2
    have x3 := cellO hx 3
    have x4 := cellO hx 4
    have x5 := cellO hx 5
    simp at x0 x1 x2 x3 x4 x5
    have HB2 := Lib.hid hb2
    clear hw1 hw2 hx hb1 hb2 hs1 c0 c1 c2 c3 c4 c5 c6 c7
    generalize w1.heap.size = z at *
    (refine wp_region_later (by kernel_rfl) (by kernel_rfl) ?_; (repeat (go_big_quiet_step (((go_at_call 87; with_reducible exact calls_later RC.out))))); refine wpQuiet_nil ?_; intro w3 hw4; have hg := later_elim hw4; clear hw4)
    have HG := Lib.hid (HB2.out.trans (hg.mono HB2.out.size))
    clear hg
    go_wp2_with fail
    go_ret
    exact ⟨ret_int (by omega), HG.out⟩
end Go.Proofs.YtibopjjicfiimaaGreatDoor
namespace Go.Proofs.YtibopjjicfiimaaGreatDoor
open Go.RowKit
set_option linter.unusedVariables false
/-- the first object that has this pointer -/
def IsAt (os : List RO) (x k : Nat) : Prop := (∃ o, os[k]? = some o ∧ o.at_ * 2 = x) ∧ ∀ j o, j < k → os[j]? = some o → o.at_ * 2 ≠ x
set_option maxRecDepth 100000 in
theorem rfind_any (C : Nat) (cells : Int) (lv : Value) (os : List RO) (x k : Nat) (w : World) (h : RObjs C w lv os) (hb : ∀ o, o ∈ os → o.at_ ≤ 1000000) (hk : IsAt os x k) :
    Calls Tryz.prog 49 #[.agg #[.int .i64 cells, lv, .int .u32 0], .int .u64 (x : Int)] w fun e w' => e = .returned (.int .i64 (k : Int)) ∧ Below w.heap.size w w' := by
  obtain ⟨⟨ok, hok, hox⟩, hlt⟩ := hk
  have hkl : k < os.length := (List.getElem?_eq_some_iff.1 hok).1
  obtain ⟨a, cap, rfl, h1, h2, h3⟩ := h.get
  unfold maxLen at h2
  have H3 := Lib.hid (show ∀ W, Below w.heap.size w W → ∀ i o, os[i]? = some o → ∃ b q, a = some ⟨b, q, none⟩ ∧ W.cell? ⟨b, q + i * 8, none⟩ = some (.int .i64 (o.at_ : Int)) from fun W hW i o ho => by
    obtain ⟨b, q, wv, bv, ha, hbl, c0, -⟩ := h3 i o ho
    exact ⟨b, q, ha, (hW.cell (p := ⟨b, q + i * 8, none⟩) hbl).trans c0⟩)
  have HLT := Lib.hid hlt
  have HOK := Lib.hid hok
  have HB := Lib.hid hb
  clear h3 h hlt hok hb
  go_enter Tryz.func49, Tryz.ntmps49
  go_wp2_with fail
  obtain ⟨w1, hw1⟩ : ∃ w1, w1 = w.alloc (.cells #[.int .i64 cells, .slice a os.length cap, .int .u32 0] 29) := ⟨_, rfl⟩
  have hx := heap_alloc_new w (.cells #[.int .i64 cells, .slice a os.length cap, .int .u32 0] 29)
  rw [← hw1] at hx ⊢
  have HB1 := Lib.hid (show Below w.heap.size w w1 by rw [hw1]; exact (Below.refl _ w).alloc (Nat.le_refl _) _)
  have HC := Lib.hid hx
  have hz1 : w.heap.size < w1.heap.size := (Array.getElem?_eq_some_iff.1 hx).1
  clear hw1 hx
  go_loopg [5] k (fun gg s5 wr => ∃ i : Nat, gg = k - i ∧ i ≤ k ∧ s5 = .int .i64 (i : Int) ∧ Below w1.heap.size w1 wr)
  case atStart => exact ⟨0, rfl, by omega, rfl, Below.refl _ _⟩
  case round =>
    obtain ⟨i, hgi, hi, rfl, hg⟩ := hrel
    have HGI := Lib.hid hgi; have HG := Lib.hid hg
    have hx := (hg.block w.heap.size hz1).trans HC.out
    have z1 := cellO hx 1
    simp at z1
    have hbw := HB1.out.trans (hg.mono HB1.out.size)
    clear hgi hg hx
    by_cases hik : i = k
    · subst hik
      obtain ⟨b, q, rfl, hc⟩ := H3.out wr hbw i ok HOK.out
      have ha := HB.out ok (List.mem_of_getElem? HOK.out)
      have HBW := Lib.hid hbw
      have he : (ok.at_ : Int) * 2 = (x : Int) := by omega
      clear hbw hox
      generalize ok.at_ = at_ at *
      go_wp2_with fail
      all_goals (try (exfalso; go_light; omega))
      go_ret
      exact ⟨rfl, HBW.out⟩
    · have hil : i < os.length := by omega
      obtain ⟨b, q, rfl, hc⟩ := H3.out wr hbw i os[i] (List.getElem?_eq_getElem hil)
      have ha := HB.out os[i] (List.getElem_mem hil)
      have hne := HLT.out i os[i] (by omega) (List.getElem?_eq_getElem hil)
      have HBW := Lib.hid hbw
      have he : ¬ (os[i].at_ : Int) * 2 = (x : Int) := by omega
      clear hbw hne
      generalize os[i] = o at *
      obtain ⟨at_, cls, kind, words, bytes⟩ := o
      dsimp only at *
      go_wp2_with fail
      all_goals (try (exfalso; go_light; omega))
      go_roundg (k - (i + 1))
      case measure => rw [HGI.out]; omega
      case rel => exact ⟨i + 1, rfl, by omega, by go_num, HG.out⟩
end Go.Proofs.YtibopjjicfiimaaGreatDoor
namespace Go.Proofs.YtibopjjicfiimaaGreatDoor
open Go.RowKit
set_option linter.unusedVariables false
theorem objInfo : (Tryz.prog.info? 65).map (fun i => (i.zero, i.size, i.bytes)) = some (some (.agg #[.int .i64 0, .int .u64 0, .int .i64 0, .int .i64 0, .int .u32 0, .bool false, .slice none 0 0, .slice none 0 0]), 8, 88) := by kernel_rfl
theorem owns_mono {w : World} {B B' e s n : Nat} {v : Value} {xs : List Value} (h : w.ownsRow B e s v n xs) (hB : B' ≤ B) : w.ownsRow B' e s v n xs := by
  refine ⟨h.1, ?_⟩
  rcases h.2 with h2 | ⟨g, cap, cur, a, b, c⟩
  · exact Or.inl h2
  · exact Or.inr ⟨g, cap, cur, a, Nat.le_trans hB b, c⟩
theorem owns_shape {w : World} {B e s n : Nat} {v : Value} {xs : List Value} (h : w.ownsRow B e s v n xs) (hn : 0 < n) : ∃ g cap, v = .slice (some ⟨g, 0, none⟩) n cap ∧ B ≤ g := by
  rcases h.2 with ⟨-, h0⟩ | ⟨g, cap, cur, hv, hb, -⟩
  · omega
  · exact ⟨g, cap, hv, hb⟩
theorem RCells.upd {C k : Nat} {w : World} {xs : List Value} {os : List RO} {o : RO} {wv bv : Value} {ws : List Nat} (h : RCells C w xs os) (hk : os[k]? = some o) (hw : WordsAt w wv ws) (hb : BytesAt w bv o.bytes) (hu : Up C wv) (hv : Up C bv) :
    RCells C w ((xs.set (k * 8 + 6) wv).set (k * 8 + 7) bv) (os.set k { o with words := ws }) := by
  have hkl := (List.getElem?_eq_some_iff.1 hk).1
  have hl := h.1
  refine ⟨by simp; omega, fun i o' ho' => ?_⟩
  by_cases e : k = i
  · subst e
    rw [List.getElem?_set_self hkl] at ho'
    injection ho' with ho'
    subst ho'
    obtain ⟨wv0, bv0, c0, c1, c2, c3, c4, c5, c6, c7, c8, c9⟩ := h.2 k o hk
    refine ⟨wv, bv, ?_, ?_, ?_, ?_, ?_, ?_, ?_, ?_, hw, hb, hu, hv⟩
    · rw [List.getElem?_set_ne (by omega), List.getElem?_set_ne (by omega)]; exact c0
    · rw [List.getElem?_set_ne (by omega), List.getElem?_set_ne (by omega)]; exact c1
    · rw [List.getElem?_set_ne (by omega), List.getElem?_set_ne (by omega)]; exact c2
    · rw [List.getElem?_set_ne (by omega), List.getElem?_set_ne (by omega)]; exact c3
    · rw [List.getElem?_set_ne (by omega), List.getElem?_set_ne (by omega)]; exact c4
    · rw [List.getElem?_set_ne (by omega), List.getElem?_set_ne (by omega)]; exact c5
    · rw [List.getElem?_set_ne (by omega), List.getElem?_set_self (by omega)]
    · rw [List.getElem?_set_self (by rw [List.length_set]; omega)]
  · rw [List.getElem?_set_ne e] at ho'
    have hil := (List.getElem?_eq_some_iff.1 ho').1
    obtain ⟨wv0, bv0, c0, c1, c2, c3, c4, c5, c6, c7, c8, c9⟩ := h.2 i o' ho'
    refine ⟨wv0, bv0, ?_, ?_, ?_, ?_, ?_, ?_, ?_, ?_, c8, c9⟩
    · rw [List.getElem?_set_ne (by omega), List.getElem?_set_ne (by omega)]; exact c0
    · rw [List.getElem?_set_ne (by omega), List.getElem?_set_ne (by omega)]; exact c1
    · rw [List.getElem?_set_ne (by omega), List.getElem?_set_ne (by omega)]; exact c2
    · rw [List.getElem?_set_ne (by omega), List.getElem?_set_ne (by omega)]; exact c3
    · rw [List.getElem?_set_ne (by omega), List.getElem?_set_ne (by omega)]; exact c4
    · rw [List.getElem?_set_ne (by omega), List.getElem?_set_ne (by omega)]; exact c5
    · rw [List.getElem?_set_ne (by omega), List.getElem?_set_ne (by omega)]; exact c6
    · rw [List.getElem?_set_ne (by omega), List.getElem?_set_ne (by omega)]; exact c7
/-- where an object's words lie behind 'own': what is stored there is the object's -/
def Owned (C : Nat) (w0 w w' : World) (v : Value) (os : List RO) (k : Nat) (o : RO) (g2 c2 : Nat) : Prop :=
  ∀ W ws, (∀ q, q < w0.heap.size ∨ w.heap.size ≤ q → q < w'.heap.size → q ≠ g2 → W.heap[q]? = w'.heap[q]?) → W.ownsRow w.heap.size 30 1 (.slice (some ⟨g2, 0, none⟩) o.words.length c2) o.words.length (wordVals ws) → RObjs C W v (os.set k { o with words := ws })
end Go.Proofs.YtibopjjicfiimaaGreatDoor
namespace Go.Proofs.YtibopjjicfiimaaGreatDoor
open Go.RowKit
set_option linter.unusedVariables false
theorem owns_up {w : World} {B B' e s n g c : Nat} {xs : List Value} (h : w.ownsRow B e s (.slice (some ⟨g, 0, none⟩) n c) n xs) (hB : B' ≤ g) : w.ownsRow B' e s (.slice (some ⟨g, 0, none⟩) n c) n xs := by
  refine ⟨h.1, ?_⟩
  rcases h.2 with ⟨h2, -⟩ | ⟨g', cap, cur, a, b, c⟩
  · simp at h2
  · have e := a
    simp at e
    refine Or.inr ⟨g', cap, cur, a, by omega, c⟩
theorem wordVals_set (l : List Nat) (i x : Nat) : (wordVals l).set i (.int .u64 (x : Int)) = wordVals (l.set i x) := by
  unfold wordVals; rw [List.map_set]; rfl
end Go.Proofs.YtibopjjicfiimaaGreatDoor
namespace Go.Proofs.YtibopjjicfiimaaGreatDoor
open Go.RowKit
set_option linter.unusedVariables false
theorem step_append_none {P : Program} {ops : Array Oper} {o : Oper} {a : Act} {w : World} {K : Act → World → Prop} {Q : Exit → Act → World → Prop} {E : Prop} (hgd : o.guard = none) (s x : Operand) (t : TypeId)
    (ho : o.op = .call { callee := .builtin .append, args := #[s, x], argTypes := #[t, t] })
    (base : Nat) (e : TypeId) (i : TypeInfo) (size : Nat) (ht : P.underlying t = some (.slice e)) (hi : P.info? e = some i)
    (v : Value) (n : Nat) (xs : List Value) (hs : a.eval s = v) (hown : w.ownsRow base e size v n xs) (hx : a.eval x = .slice none 0 0)
    (h : K (a.put o.dst v) w) : if Region.wanted o (yielded ops a.tmps) = true then Oper.wp P o a w K Q else E := by
  have hw : Region.wanted o (yielded ops a.tmps) = true := by simp [Region.wanted, hgd]
  rw [if_pos hw]
  have hrun := run_append_owned_none (P := P) (w := w) base t o.type e i size ht hi v n xs hown
  unfold Oper.wp
  simp [execOp, ho, resolve, invoke, builtin, hs, hx, hrun, Result.andThen]
  exact h
theorem drewHeap (w : World) : w.drew.heap = w.heap := rfl
def newW (k : Int) : List Nat := if k = 2 then [] else [1, 1, 1]
def newB (k : Int) : List UInt8 := if k = 2 then [0, 0, 0] else []
end Go.Proofs.YtibopjjicfiimaaGreatDoor
namespace Go.Proofs.YtibopjjicfiimaaGreatDoor
open Go.RowKit
set_option linter.unusedVariables false
theorem unOK_packL {c k s h : Int} (m : Bool) (hz : checkZ c k s h = 0) (hh : 0 ≤ h) :
    UnOK c (packZ k s h m) ∧ hK (packZ k s h m) = k ∧ hS (packZ k s h m) = s ∧ hH (packZ k s h m) = h ∧ hM (packZ k s h m) = m ∧ 0 ≤ packZ k s h m ∧ packZ k s h m < 18446744073709551616 := by
  obtain ⟨a0, a1, s0, s1, hh1, k0, k1⟩ := checkZ_ok.1 hz
  unfold UnOK hK hS hH hM packZ
  cases m <;> simp <;> omega
/-- an object of both heaps -/
structure LayO (free : Nat) (S : Nat → Bool) (M : Nat → Nat) (o : RO) : Prop where
  here : S o.at_ = true
  two : 2 ≤ o.at_
  cls : M o.at_ = o.cls
  head : M (o.at_ + 1) = (packZ o.kind 3 0 false).toNat
  check : checkZ (o.cls : Int) o.kind 3 0 = 0
  small : o.cls < 18446744073709551616
  fit : o.at_ + 2 + cellsR o ≤ free
  words : o.kind ≠ 2 → o.words.length = 3 ∧ ∀ i, i < 3 → M (o.at_ + 2 + i) = o.words.getD i 0
  raw : o.kind = 2 → o.words = []
  bytes : o.bytes = newB o.kind
  tail : o.kind = 2 → M (o.at_ + 2) = 0
structure Lays (free : Nat) (S : Nat → Bool) (M : Nat → Nat) (os : List RO) : Prop where
  used : usedR os = free
  two : 2 ≤ free
  most : free ≤ 2 + 5 * os.length
  obj : ∀ (i : Nat) (o : RO), os[i]? = some o → LayO free S M o
  only : ∀ a, S a = true → ∃ (i : Nat) (o : RO), os[i]? = some o ∧ o.at_ = a
  ord : ∀ (i j : Nat) (o p : RO), i < j → os[i]? = some o → os[j]? = some p → o.at_ + 2 + cellsR o ≤ p.at_
  zero : ∀ j, free ≤ j → M j = 0
  next : ∀ (i : Nat) (o : RO), os[i]? = some o → o.at_ = usedR (os.take i)
theorem cellsR_of {o : RO} (h : checkZ (o.cls : Int) o.kind 3 0 = 0) : cellsR o = if o.kind = 2 then 1 else 3 := by
  unfold cellsR cellsZ
  rw [if_pos h]
  split <;> rfl
theorem lays_nil : Lays 2 (fun _ => false) (fun _ => 0) [] :=
  ⟨rfl, Nat.le_refl _, Nat.le_refl _, fun i o h => by simp at h, fun a h => (by cases h), (fun i j o p _ h => by simp at h), fun _ _ => rfl, fun i o h => by simp at h⟩
theorem usedR_snoc (os : List RO) (o : RO) : usedR (os ++ [o]) = o.at_ + 2 + cellsR o := by
  unfold usedR; rw [List.getLast?_concat]
theorem get_snoc {os : List RO} {o p : RO} {i : Nat} (h : (os ++ [o])[i]? = some p) : os[i]? = some p ∨ i = os.length ∧ p = o := by
  by_cases hi : i < os.length
  · rw [List.getElem?_append_left hi] at h; exact Or.inl h
  · rw [List.getElem?_append_right (by omega)] at h
    by_cases e : i - os.length = 0
    · rw [e] at h; simp at h; exact Or.inr ⟨by omega, h.symm⟩
    · rw [List.getElem?_eq_none (by simp; omega)] at h; cases h
theorem Lays.add {N free c : Nat} {k : Int} {S : Nat → Bool} {M M' : Nat → Nat} {os : List RO} (h : Lays free S M os) (hN : free < N) (hz : checkZ (c : Int) k 3 0 = 0) (hc : c < 18446744073709551616)
    (h0 : ∀ j, j < free → M' j = M j) (h1 : M' free = c) (h2 : M' (free + 1) = (packZ k 3 0 false).toNat) (h3 : k ≠ 2 → ∀ i, i < 3 → M' (free + 2 + i) = 1)
    (h4 : ∀ j, free + 2 + (if k = 2 then 0 else 3) ≤ j → M' j = M j) :
    Lays (free + 2 + (if k = 2 then 1 else 3)) (setS N S (free : Int) true) M' (os ++ [⟨free, c, k, newW k, newB k⟩]) := by
  have hcr : cellsR ⟨free, c, k, newW k, newB k⟩ = if k = 2 then 1 else 3 := cellsR_of hz
  have hs := h.two
  have hset := fun j => setT N free S hN j
  refine ⟨by rw [usedR_snoc, hcr], by omega, ?_, fun i p hp => ?_, fun a ha => ?_, fun i j o p hij ho hp => ?_, fun j hj => ?_, fun i p hp => ?_⟩
  · have := h.most
    rw [List.length_append, List.length_singleton]
    split <;> omega
  · rcases get_snoc hp with hp | ⟨rfl, rfl⟩
    · obtain ⟨a, b, c1, d, e, f, g, w, r, y, tl⟩ := h.obj i p hp
      have hcp := cellsR_of e
      refine ⟨(hset _).2 (Or.inr a), b, (h0 _ (by omega)).trans c1, (h0 _ (by omega)).trans d, e, f, by omega, fun hk => ⟨(w hk).1, fun i hi => ?_⟩, r, y, fun hk => ?_⟩
      rotate_left
      · rw [if_pos hk] at hcp
        exact (h0 _ (by omega)).trans (tl hk)
      rw [if_neg hk] at hcp
      exact (h0 _ (by omega)).trans ((w hk).2 i hi)
    · refine ⟨(hset _).2 (Or.inl rfl), hs, h1, h2, hz, hc, by rw [hcr]; exact Nat.le_refl _, fun hk => ⟨by show (newW k).length = 3; unfold newW; rw [if_neg hk]; rfl, fun i hi => ?_⟩, (fun hk => by show newW k = []; unfold newW; rw [if_pos hk]), rfl, fun hk => ?_⟩
      rotate_left
      · have hk : k = 2 := hk
        rw [if_pos hk] at h4
        exact (h4 _ (Nat.le_refl _)).trans (h.zero _ (by omega))
      rw [h3 hk i hi]
      show 1 = (newW k).getD i 0
      unfold newW
      rw [if_neg hk]
      match i, hi with
      | 0, _ => rfl
      | 1, _ => rfl
      | 2, _ => rfl
  · rcases (hset a).1 ha with rfl | ha
    · exact ⟨os.length, ⟨a, c, k, newW k, newB k⟩, by rw [List.getElem?_append_right (Nat.le_refl _), Nat.sub_self]; rfl, rfl⟩
    · obtain ⟨i, o, ho, hoa⟩ := h.only a ha
      exact ⟨i, o, by rw [List.getElem?_append_left (List.getElem?_eq_some_iff.1 ho).1]; exact ho, hoa⟩
  · rcases get_snoc hp with hp' | ⟨rfl, rfl⟩
    · rcases get_snoc ho with ho' | ⟨rfl, rfl⟩
      · exact h.ord i j o p hij ho' hp'
      · have := (List.getElem?_eq_some_iff.1 hp').1; omega
    · rcases get_snoc ho with ho' | ⟨rfl, rfl⟩
      · exact (h.obj i o ho').fit
      · omega
  · rw [h4 j (by split <;> split at hj <;> omega)]
    exact h.zero j (by split at hj <;> omega)
  · rcases get_snoc hp with hp' | ⟨rfl, rfl⟩
    · have hl := (List.getElem?_eq_some_iff.1 hp').1
      rw [List.take_append_of_le_length (by omega)]
      exact h.next i p hp'
    · rw [List.take_left' rfl]
      exact h.used.symm
theorem usedR_set {os : List RO} {k : Nat} {o p : RO} (hk : os[k]? = some o) (h1 : p.at_ = o.at_) (h2 : cellsR p = cellsR o) : usedR (os.set k p) = usedR os := by
  have hl := (List.getElem?_eq_some_iff.1 hk).1
  unfold usedR
  rw [List.getLast?_eq_getElem?, List.getLast?_eq_getElem?, List.length_set]
  by_cases e : k = os.length - 1
  · subst e
    rw [List.getElem?_set_self hl, hk]
    show p.at_ + 2 + cellsR p = o.at_ + 2 + cellsR o
    rw [h1, h2]
  · rw [List.getElem?_set_ne e]
theorem Lays.at_lt {free : Nat} {S : Nat → Bool} {M : Nat → Nat} {os : List RO} (h : Lays free S M os) {i j : Nat} {o p : RO} (hi : os[i]? = some o) (hj : os[j]? = some p) (hne : i ≠ j) : o.at_ + 2 + cellsR o ≤ p.at_ ∨ p.at_ + 2 + cellsR p ≤ o.at_ := by
  rcases Nat.lt_or_ge i j with hl | hl
  · exact Or.inl (h.ord i j o p hl hi hj)
  · exact Or.inr (h.ord j i p o (by omega) hj hi)
theorem Lays.put {free k i x : Nat} {S : Nat → Bool} {M : Nat → Nat} {os : List RO} {o : RO} (h : Lays free S M os) (hk : os[k]? = some o) (hkd : o.kind ≠ 2) (hi : i < 3) :
    Lays free S (fun j => if j = o.at_ + 2 + i then x else M j) (os.set k { o with words := o.words.set i x }) := by
  have hl := (List.getElem?_eq_some_iff.1 hk).1
  have hget : ∀ (j : Nat) (p : RO), (os.set k { o with words := o.words.set i x })[j]? = some p → (j = k ∧ p = { o with words := o.words.set i x }) ∨ (j ≠ k ∧ os[j]? = some p) := by
    intro j p hp
    by_cases e : k = j
    · subst e; rw [List.getElem?_set_self hl] at hp; injection hp with hp; exact Or.inl ⟨rfl, hp.symm⟩
    · rw [List.getElem?_set_ne e] at hp; exact Or.inr ⟨fun e' => e e'.symm, hp⟩
  have hold : ∀ (j : Nat) (p : RO), (os.set k { o with words := o.words.set i x })[j]? = some p → ∃ q, os[j]? = some q ∧ p.at_ = q.at_ ∧ cellsR p = cellsR q := by
    intro j p hp
    rcases hget j p hp with ⟨rfl, rfl⟩ | ⟨_, hp⟩
    · exact ⟨o, hk, rfl, rfl⟩
    · exact ⟨p, hp, rfl, rfl⟩
  have ho := h.obj k o hk
  have hco := cellsR_of ho.check
  rw [if_neg hkd] at hco
  refine ⟨(usedR_set (p := { o with words := o.words.set i x }) hk rfl rfl).trans h.used, h.two, by rw [List.length_set]; exact h.most, fun j p hp => ?_, fun a ha => ?_, fun i' j' p q hij hp hq => ?_, fun j hj => ?_, fun i' p hp => ?_⟩
  · rcases hget j p hp with ⟨rfl, rfl⟩ | ⟨hne, hp⟩
    · refine ⟨ho.here, ho.two, ?_, ?_, ho.check, ho.small, ho.fit, fun _ => ⟨by show (o.words.set i x).length = 3; rw [List.length_set]; exact (ho.words hkd).1, fun i' hi' => ?_⟩, fun e => absurd e hkd, ho.bytes, fun e => absurd e hkd⟩
      · show (if o.at_ = o.at_ + 2 + i then x else M o.at_) = _
        rw [if_neg (by omega)]; exact ho.cls
      · show (if o.at_ + 1 = o.at_ + 2 + i then x else M (o.at_ + 1)) = _
        rw [if_neg (by omega)]; exact ho.head
      · show (if o.at_ + 2 + i' = o.at_ + 2 + i then x else M (o.at_ + 2 + i')) = (o.words.set i x).getD i' 0
        rw [List.getD_eq_getElem?_getD]
        by_cases e : i = i'
        · subst e
          rw [if_pos rfl, List.getElem?_set_self (by rw [(ho.words hkd).1]; exact hi)]; rfl
        · rw [if_neg (by omega), List.getElem?_set_ne e, (ho.words hkd).2 i' hi', List.getD_eq_getElem?_getD]
    · have hp' := h.obj j p hp
      have hcp := cellsR_of hp'.check
      have hd := h.at_lt hp hk hne
      have h1 : ∀ y, y = p.at_ ∨ y = p.at_ + 1 ∨ y = p.at_ + 2 ∨ (p.kind ≠ 2 ∧ p.at_ + 2 ≤ y ∧ y < p.at_ + 5) → (if y = o.at_ + 2 + i then x else M y) = M y := by
        intro y hy
        rw [if_neg]
        intro e
        rcases hy with hy | hy | hy | ⟨hk2, hy⟩
        · split at hcp <;> omega
        · split at hcp <;> omega
        · split at hcp <;> omega
        · rw [if_neg hk2] at hcp; omega
      refine ⟨hp'.here, hp'.two, (h1 _ (Or.inl rfl)).trans hp'.cls, (h1 _ (Or.inr (Or.inl rfl))).trans hp'.head, hp'.check, hp'.small, hp'.fit, fun hk2 => ⟨(hp'.words hk2).1, fun i' hi' => (h1 _ (Or.inr (Or.inr (Or.inr ⟨hk2, by omega, by omega⟩)))).trans ((hp'.words hk2).2 i' hi')⟩, hp'.raw, hp'.bytes, fun hk2 => (h1 _ (Or.inr (Or.inr (Or.inl rfl)))).trans (hp'.tail hk2)⟩
  · obtain ⟨j, p, hp, hpa⟩ := h.only a ha
    by_cases e : k = j
    · subst e
      rw [hk] at hp; injection hp with hp; subst hp
      exact ⟨k, _, List.getElem?_set_self hl, hpa⟩
    · exact ⟨j, p, by rw [List.getElem?_set_ne e]; exact hp, hpa⟩
  · obtain ⟨p', hp', e1, e2⟩ := hold i' p hp
    obtain ⟨q', hq', e3, e4⟩ := hold j' q hq
    have := h.ord i' j' p' q' hij hp' hq'
    omega
  · show (if j = o.at_ + 2 + i then x else M j) = 0
    rw [if_neg (by have := ho.fit; omega)]
    exact h.zero j hj
  · obtain ⟨q, hq, e1, -⟩ := hold i' p hp
    rw [e1, h.next i' q hq]
    by_cases hki : k < i'
    · rw [List.take_set]
      exact (usedR_set (o := o) (p := { o with words := o.words.set i x }) (by rw [List.getElem?_take, if_pos hki]; exact hk) rfl rfl).symm
    · rw [List.take_set, List.set_eq_of_length_le (by rw [List.length_take]; omega)]
theorem Lays.isAt {free k : Nat} {S : Nat → Bool} {M : Nat → Nat} {os : List RO} {o : RO} (h : Lays free S M os) (hk : os[k]? = some o) : IsAt os (o.at_ * 2) k :=
  ⟨⟨o, hk, rfl⟩, fun j p hj hp => by have := h.ord j k p o hj hp hk; omega⟩
theorem Lays.small {free : Nat} {S : Nat → Bool} {M : Nat → Nat} {os : List RO} (h : Lays free S M os) (hf : free ≤ 200) : ∀ o, o ∈ os → o.at_ ≤ 1000000 := by
  intro o ho
  obtain ⟨i, hi, rfl⟩ := List.getElem_of_mem ho
  have := (h.obj i _ (List.getElem?_eq_getElem hi)).fit
  omega
theorem LayO.un {free : Nat} {S : Nat → Bool} {M : Nat → Nat} {o : RO} (h : LayO free S M o) : UnOK (M o.at_) (M (o.at_ + 1)) ∧ hK (M (o.at_ + 1)) = o.kind ∧ hS (M (o.at_ + 1)) = 3 := by
  obtain ⟨a, b, c, -, -, d, e⟩ := unOK_packL false h.check (by omega)
  rw [h.cls, h.head, Int.toNat_of_nonneg d]
  exact ⟨a, b, c⟩
theorem Lays.good {free : Nat} {S : Nat → Bool} {M : Nat → Nat} {os : List RO} (h : Lays free S M os) (hf : free ≤ 200) : GoodH 200 S M := by
  intro a ha
  obtain ⟨i, o, ho, rfl⟩ := h.only a ha
  have hp := h.obj i o ho
  have h2 := hp.two; have h3 := hp.fit
  have hc := cellsR_of hp.check
  obtain ⟨u1, u2, u3⟩ := hp.un
  refine ⟨⟨by omega, by omega, ha, u1⟩, fun hk => ?_⟩
  rw [u2] at hk
  rw [if_neg hk] at hc
  rw [u3]
  show o.at_ + 2 + 3 ≤ 200
  omega
end Go.Proofs.YtibopjjicfiimaaGreatDoor
namespace Go.Proofs.YtibopjjicfiimaaGreatDoor
open Go.RowKit
set_option linter.unusedVariables false
theorem WordsAt.at {w : World} {v : Value} {l : List Nat} (h : WordsAt w v l) : ∃ a cap, v = .slice a l.length cap ∧ l.length ≤ cap ∧ cap ≤ maxLen ∧ ∀ i, i < l.length → ∃ b o, a = some ⟨b, o, none⟩ ∧ b < w.heap.size ∧ w.cell? ⟨b, o + i, none⟩ = some (.int .u64 (l.getD i 0 : Int)) := by
  obtain ⟨a, cap, rfl, h1, h2, h3, h4⟩ := h
  refine ⟨a, cap, rfl, h1, h2, fun i hi => ?_⟩
  have hw : (wordVals l)[i]? = some (.int .u64 (l.getD i 0 : Int)) := by
    simp [wordVals, List.getElem?_map, List.getD_eq_getElem?_getD, List.getElem?_eq_getElem hi]
  rcases h3 with h3 | ⟨b, o, rfl, hc⟩
  · have : (wordVals l).length = 0 := by rw [h3]; rfl
    rw [wordVals_length] at this; omega
  · have := hc i (by rw [wordVals_length]; exact hi)
    exact ⟨b, o, rfl, lt_of_cell (this.trans hw), this.trans hw⟩
end Go.Proofs.YtibopjjicfiimaaGreatDoor
namespace Go.Proofs.YtibopjjicfiimaaGreatDoor
open Go.RowKit
set_option linter.unusedVariables false
theorem HeapLt.far {w w' : World} {h C : Nat} (hl : HeapLt w h C) (hq : ∀ q, q < C → w'.heap[q]? = w.heap[q]?) : HeapLt w' h C := by
  obtain ⟨g, s, r, N, N', m, c, x1, x3, y0, cg, h1, h2, h3, l1, l2, l3, l4⟩ := hl
  exact ⟨g, s, r, N, N', m, c, x1, x3, y0, cg, (hq h l1).trans h1, (hq s l3).trans h2, (hq g l2).trans h3, l1, l2, l3, l4⟩
theorem HeapAt.far {w w' : World} {B h N free C : Nat} {S : Nat → Bool} {M : Nat → Nat} (H : HeapAt w B h N free S M) (hl : HeapLt w h C) (hq : ∀ q, q < C → w'.heap[q]? = w.heap[q]?) : HeapAt w' B h N free S M := by
  obtain ⟨g, s, h1, h2, h3, h3', h4, h5, h6, h7, h8⟩ := H
  obtain ⟨r, cap, m, ws, f, k1, k2, k3, k4, k5, k6, k7, k8, k9⟩ := h8
  obtain ⟨g', s', r', n, n', m', c', x1, x3, y0, cg, e1, e2, e3, l1, l2, l3, l4⟩ := hl
  rw [h5] at e1
  simp at e1
  obtain ⟨⟨rfl, -, -⟩, -, rfl, -⟩ := e1
  rw [k5] at e2
  simp at e2
  obtain ⟨-, rfl, -, -⟩ := e2
  exact ⟨g, s, h1, h2, h3, h3', h4, (hq h l1).trans h5, h6.of_block (hq g l2), h7, r, cap, m, ws, f, k1, k2, k3, k4, (hq s l3).trans k5, k6, k7, k8.of_block (hq r l4), k9⟩
theorem RowAt.keep {n c : Nat} {w w' : World} {a : Option Addr} {xs : List Value} (h : RowAt w a xs) (ho : ∀ b o, a = some ⟨b, o, none⟩ → w'.heap[b]? = w.heap[b]?) : RowAt w' a xs := by
  rcases h with h | ⟨b, o, ha, hc⟩
  · exact Or.inl h
  · exact Or.inr ⟨b, o, ha, fun j hj => by rw [← hc j hj]; exact World.cell?_of_block (ho b o ha)⟩
theorem WordsAt.keep {w w' : World} {v : Value} {l : List Nat} (h : WordsAt w v l) (ho : ∀ b o n c, v = .slice (some ⟨b, o, none⟩) n c → w'.heap[b]? = w.heap[b]?) : WordsAt w' v l := by
  obtain ⟨a, cap, rfl, h1, h2, h3, h4⟩ := h
  exact ⟨a, cap, rfl, h1, h2, h3.keep (n := 0) (c := 0) (fun b o e => ho b o _ _ (by rw [e])), h4⟩
section
variable {w0 w w' w1 : World} {E C h D P N : Nat} {kv gv pv : Value} {ps : List Nat} {nx nx' : Nat} {lv lv' : Value} {os os' : List RO} {free free' : Nat} {S S' : Nat → Bool} {M M' : Nat → Nat}
end
end Go.Proofs.YtibopjjicfiimaaGreatDoor
