/- The document's heap: how much is used; an object by its pointer. The document's heap: an object by its pointer; may a word of it be? The document's heap: the list and an object are copies of their own. The document's heap: another word. The document's heap: an empty one; a new object. -/
import Derived.Test.YtobajnodckiohaaDoorRefHeap
import Derived.Test.YtobajnodckiohaaDoorHeadD
import Derived.Test.YtobajnodckiohaaDoorLater
import Derived.Test.YtobajnodckiohaaDoorHeapD
import Derived.BigQuiet
import Derived.Deep.RegionHeld3
import Derived.Deep.RegionLaw
import Derived.Deep.AppendLies
import Derived.Laws.OwnMore
import Derived.Laws.AppendOwnNone
namespace Go.Proofs.YtobajnodckiohaaDoor
open Go.RowKit
set_option linter.unusedVariables false
def cellsR (o : RO) : Nat := (cellsZ (o.cls : Int) o.kind 3 0).toNat
/-- the place of the first free cell -/
def usedR (os : List RO) : Nat := match os.getLast? with
  | none => 2
  | some o => o.at_ + 2 + cellsR o
theorem cellsR_bd (o : RO) : cellsR o ≤ 1048576 := by
  have := cellsZ_bd (o.cls : Int) o.kind 3 0
  unfold cellsR; omega
set_option maxRecDepth 100000 in
theorem rused_any (C : Nat) (cells : Int) (lv : Value) (os : List RO) (w : World) (h : RObjs C w lv os) (hb : ∀ o, o ∈ os → o.at_ ≤ 1000000) :
    Calls Tryd.prog 44 #[.agg #[.int .i64 cells, lv, .int .u32 0]] w fun e w' => e = .returned (.int .i64 (usedR os : Int)) ∧ Below w.heap.size w w' := by
  obtain ⟨a, cap, rfl, h1, h2, h3⟩ := h.get
  unfold maxLen at h2
  by_cases h0 : os.length = 0
  · have : os = [] := List.eq_nil_of_length_eq_zero h0
    subst this
    rw [List.length_nil]
    clear h3 h
    go_enter Tryd.func44, Tryd.ntmps44
    go_wp2_with fail
    go_ret
    refine ⟨rfl, ?_⟩
    repeat (first | with_reducible exact Below.refl _ _ | ((with_reducible refine Below.setCell ?_ ?_ _); rotate_left; focus (first | (simp; done) | (simp; omega) | omega)) | ((with_reducible refine Below.alloc ?_ ?_ _); rotate_left; focus (first | (simp; done) | (simp; omega) | omega)) | (with_reducible refine Below.drew ?_))
  · obtain ⟨n, hn⟩ : ∃ n, os.length = n + 1 := ⟨os.length - 1, by omega⟩
    obtain ⟨o, hlast⟩ : ∃ o, os[n]? = some o := ⟨_, List.getElem?_eq_getElem (by omega)⟩
    obtain ⟨b, q, wv, bv, rfl, hbl, c0, c1, c2, c3, c4, c5, c6, c7, c8, c9⟩ := h3 n o hlast
    have hu : usedR os = o.at_ + 2 + cellsR o := by
      unfold usedR
      rw [List.getLast?_eq_getElem?, show os.length - 1 = n by omega, hlast]
    have hat := hb o (List.mem_of_getElem? hlast)
    have hcl := cellsR_bd o
    have hcz := cellsZ_bd (o.cls : Int) o.kind 3 0
    have RC := Lib.hid (fun W => rcells_any (o.cls : Int) o.kind 3 0 false (by omega) (by omega) W)
    rw [show cellsZ (o.cls : Int) o.kind 3 0 = (cellsR o : Int) by unfold cellsR; omega] at RC
    obtain ⟨wa, wc, rfl, -⟩ := c8
    obtain ⟨ba, bc, rfl, -⟩ := c9.1
    rw [hu]
    generalize cellsR o = cr at *
    obtain ⟨at_, cls, kind, words, bytes⟩ := o
    dsimp only at *
    rw [hn]
    rw [hn] at h1
    clear hu h3 h hlast hb hcz hn h0
    go_enter Tryd.func44, Tryd.ntmps44
    go_wp2_with fail
    all_goals (try (exfalso; go_light; omega))
    obtain ⟨w1, hw1⟩ : ∃ w1, w1 = w.alloc (.cells #[.int .i64 cells, .slice (some ⟨b, q, none⟩) (n + 1) cap, .int .u32 0] 31) := ⟨_, rfl⟩
    have hb1 : Below w.heap.size w w1 := by rw [hw1]; exact (Below.refl _ w).alloc (Nat.le_refl _) _
    have hs1 : w1.heap.size = w.heap.size + 1 := by rw [hw1]; simp
    rw [← hw1, ← hs1]
    obtain ⟨w2, hw2⟩ : ∃ w2, w2 = w1.alloc (.cells #[.int .i64 (at_ : Int), .int .u64 (cls : Int), .int .i64 kind, .int .i64 3, .int .u32 0, .bool false, .slice wa words.length wc, .slice ba bytes.length bc] 43) := ⟨_, rfl⟩
    have hx := heap_alloc_new w1 (.cells #[.int .i64 (at_ : Int), .int .u64 (cls : Int), .int .i64 kind, .int .i64 3, .int .u32 0, .bool false, .slice wa words.length wc, .slice ba bytes.length bc] 43)
    rw [← hw2] at hx ⊢
    have hb2 : Below w.heap.size w w2 := by rw [hw2]; exact hb1.alloc hb1.size _
    have hlt : w1.heap.size < w2.heap.size := (Array.getElem?_eq_some_iff.1 hx).1
    have x0 := cellO hx 0
    have x1 := cellO hx 1
    have x2 := cellO hx 2
    have x3 := cellO hx 3
    have x4 := cellO hx 4
    have x5 := cellO hx 5
    simp at x0 x1 x2 x3 x4 x5
    have HB2 := Lib.hid hb2
    clear hw1 hw2 hx hb1 hb2 hs1 c0 c1 c2 c3 c4 c5 c6 c7
    generalize w1.heap.size = z at *
    (refine wp_region_later (by kernel_rfl) (by kernel_rfl) ?_; (repeat (go_big_quiet_step (((go_at_call 42; with_reducible exact calls_later RC.out))))); refine wpQuiet_nil ?_; intro w3 hw4; have hg := later_elim hw4; clear hw4)
    have HG := Lib.hid (HB2.out.trans (hg.mono HB2.out.size))
    clear hg
    go_wp2_with fail
    go_ret
    exact ⟨ret_int (by omega), HG.out⟩
end Go.Proofs.YtobajnodckiohaaDoor
namespace Go.Proofs.YtobajnodckiohaaDoor
open Go.RowKit
set_option linter.unusedVariables false
/-- the first object that has this pointer -/
def IsAt (os : List RO) (x k : Nat) : Prop := (∃ o, os[k]? = some o ∧ o.at_ * 2 = x) ∧ ∀ j o, j < k → os[j]? = some o → o.at_ * 2 ≠ x
set_option maxRecDepth 100000 in
theorem rfind_any (C : Nat) (cells : Int) (lv : Value) (os : List RO) (x k : Nat) (w : World) (h : RObjs C w lv os) (hb : ∀ o, o ∈ os → o.at_ ≤ 1000000) (hk : IsAt os x k) :
    Calls Tryd.prog 61 #[.agg #[.int .i64 cells, lv, .int .u32 0], .int .u64 (x : Int)] w fun e w' => e = .returned (.int .i64 (k : Int)) ∧ Below w.heap.size w w' := by
  obtain ⟨⟨ok, hok, hox⟩, hlt⟩ := hk
  have hkl : k < os.length := (List.getElem?_eq_some_iff.1 hok).1
  obtain ⟨a, cap, rfl, h1, h2, h3⟩ := h.get
  unfold maxLen at h2
  have H3 := Lib.hid (show ∀ W, Below w.heap.size w W → ∀ i o, os[i]? = some o → ∃ b q, a = some ⟨b, q, none⟩ ∧ W.cell? ⟨b, q + i * 8, none⟩ = some (.int .i64 (o.at_ : Int)) from fun W hW i o ho => by
    obtain ⟨b, q, wv, bv, ha, hbl, c0, -⟩ := h3 i o ho
    exact ⟨b, q, ha, (hW.cell (p := ⟨b, q + i * 8, none⟩) hbl).trans c0⟩)
  have HLT := Lib.hid hlt
  have HOK := Lib.hid hok
  have HB := Lib.hid hb
  clear h3 h hlt hok hb
  go_enter Tryd.func61, Tryd.ntmps61
  go_wp2_with fail
  obtain ⟨w1, hw1⟩ : ∃ w1, w1 = w.alloc (.cells #[.int .i64 cells, .slice a os.length cap, .int .u32 0] 31) := ⟨_, rfl⟩
  have hx := heap_alloc_new w (.cells #[.int .i64 cells, .slice a os.length cap, .int .u32 0] 31)
  rw [← hw1] at hx ⊢
  have HB1 := Lib.hid (show Below w.heap.size w w1 by rw [hw1]; exact (Below.refl _ w).alloc (Nat.le_refl _) _)
  have HC := Lib.hid hx
  have hz1 : w.heap.size < w1.heap.size := (Array.getElem?_eq_some_iff.1 hx).1
  clear hw1 hx
  go_loopg [5] k (fun gg s5 wr => ∃ i : Nat, gg = k - i ∧ i ≤ k ∧ s5 = .int .i64 (i : Int) ∧ Below w1.heap.size w1 wr)
  case atStart => exact ⟨0, rfl, by omega, rfl, Below.refl _ _⟩
  case round =>
    obtain ⟨i, hgi, hi, rfl, hg⟩ := hrel
    have HGI := Lib.hid hgi; have HG := Lib.hid hg
    have hx := (hg.block w.heap.size hz1).trans HC.out
    have z1 := cellO hx 1
    simp at z1
    have hbw := HB1.out.trans (hg.mono HB1.out.size)
    clear hgi hg hx
    by_cases hik : i = k
    · subst hik
      obtain ⟨b, q, rfl, hc⟩ := H3.out wr hbw i ok HOK.out
      have ha := HB.out ok (List.mem_of_getElem? HOK.out)
      have HBW := Lib.hid hbw
      have he : (ok.at_ : Int) * 2 = (x : Int) := by omega
      clear hbw hox
      generalize ok.at_ = at_ at *
      go_wp2_with fail
      all_goals (try (exfalso; go_light; omega))
      go_ret
      exact ⟨rfl, HBW.out⟩
    · have hil : i < os.length := by omega
      obtain ⟨b, q, rfl, hc⟩ := H3.out wr hbw i os[i] (List.getElem?_eq_getElem hil)
      have ha := HB.out os[i] (List.getElem_mem hil)
      have hne := HLT.out i os[i] (by omega) (List.getElem?_eq_getElem hil)
      have HBW := Lib.hid hbw
      have he : ¬ (os[i].at_ : Int) * 2 = (x : Int) := by omega
      clear hbw hne
      generalize os[i] = o at *
      obtain ⟨at_, cls, kind, words, bytes⟩ := o
      dsimp only at *
      go_wp2_with fail
      all_goals (try (exfalso; go_light; omega))
      go_roundg (k - (i + 1))
      case measure => rw [HGI.out]; omega
      case rel => exact ⟨i + 1, rfl, by omega, by go_num, HG.out⟩
set_option maxRecDepth 100000 in
theorem rcheck_any (C : Nat) (cells : Int) (lv : Value) (os : List RO) (x k : Nat) (i : Int) (w : World) (h : RObjs C w lv os) (hb : ∀ o, o ∈ os → o.at_ ≤ 1000000) (hk : IsAt os x k) (hkd : ∀ o, os[k]? = some o → o.kind ≠ 2) (hi0 : 0 ≤ i) (hi1 : i < 3) :
    Calls Tryd.prog 46 #[.agg #[.int .i64 cells, lv, .int .u32 0], .int .u64 (x : Int), .int .i64 i, .bool false] w fun e w' => e = .returned (.tuple #[.int .i64 (k : Int), .int .i64 0]) ∧ Below w.heap.size w w' := by
  have FD := Lib.hid (fun W (hW : Below w.heap.size w W) => rfind_any C cells lv os x k W (h.later hW) hb hk)
  obtain ⟨⟨ok, hok, hox⟩, -⟩ := hk
  have hkl : k < os.length := (List.getElem?_eq_some_iff.1 hok).1
  obtain ⟨a, cap, rfl, h1, h2, h3⟩ := h.get
  unfold maxLen at h2
  obtain ⟨b, q, wv, bv, rfl, hbl, c0, c1, c2, c3, c4, c5, c6, c7, c8, c9⟩ := h3 k ok hok
  have hkd2 := hkd ok hok
  have C2 := Lib.hid (show ∀ W, Below w.heap.size w W → W.cell? ⟨b, q + k * 8 + 2, none⟩ = some (.int .i64 ok.kind) ∧ W.cell? ⟨b, q + k * 8 + 3, none⟩ = some (.int .i64 3) from fun W hW => ⟨(hW.cell (p := ⟨b, q + k * 8 + 2, none⟩) hbl).trans c2, (hW.cell (p := ⟨b, q + k * 8 + 3, none⟩) hbl).trans c3⟩)
  clear h3 h hok hox hkd c0 c1 c2 c3 c4 c5 c6 c7 c8 c9 hb
  generalize ok.kind = kd at *
  have hkd3 : (kd == 2) = false := by simpa using hkd2
  clear hkd2
  go_enter Tryd.func46, Tryd.ntmps46
  go_wp2_with fail
  obtain ⟨w1, hw1⟩ : ∃ w1, w1 = w.alloc (.cells #[.int .i64 cells, .slice (some ⟨b, q, none⟩) os.length cap, .int .u32 0] 31) := ⟨_, rfl⟩
  have hx := heap_alloc_new w (.cells #[.int .i64 cells, .slice (some ⟨b, q, none⟩) os.length cap, .int .u32 0] 31)
  rw [← hw1] at hx ⊢
  have hb1 : Below w.heap.size w w1 := by rw [hw1]; exact (Below.refl _ w).alloc (Nat.le_refl _) _
  refine (FD.out w1 hb1).mono ?_
  rintro e w2 ⟨rfl, hg⟩
  have hx2 := (hg.block w.heap.size (Array.getElem?_eq_some_iff.1 hx).1).trans hx
  have z1 := cellO hx2 1
  simp at z1
  have hb2 := hb1.trans (hg.mono hb1.size)
  obtain ⟨y2, y3⟩ := C2.out w2 hb2
  have HB2 := Lib.hid hb2
  clear hw1 hx hb1 hg hx2 hb2
  go_wp2_with fail
  all_goals (try (exfalso; go_light; omega))
  exact bodyPost_ret (v := .tuple #[.int .i64 (k : Int), .int .i64 0]) (by simp [results, Tryd.results46, go_sem]) rfl ⟨rfl, HB2.out⟩
end Go.Proofs.YtobajnodckiohaaDoor
namespace Go.Proofs.YtobajnodckiohaaDoor
open Go.RowKit
set_option linter.unusedVariables false
theorem objInfo : (Tryd.prog.info? 43).map (fun i => (i.zero, i.size, i.bytes)) = some (some (.agg #[.int .i64 0, .int .u64 0, .int .i64 0, .int .i64 0, .int .u32 0, .bool false, .slice none 0 0, .slice none 0 0]), 8, 88) := by kernel_rfl
theorem owns_mono {w : World} {B B' e s n : Nat} {v : Value} {xs : List Value} (h : w.ownsRow B e s v n xs) (hB : B' ≤ B) : w.ownsRow B' e s v n xs := by
  refine ⟨h.1, ?_⟩
  rcases h.2 with h2 | ⟨g, cap, cur, a, b, c⟩
  · exact Or.inl h2
  · exact Or.inr ⟨g, cap, cur, a, Nat.le_trans hB b, c⟩
theorem owns_shape {w : World} {B e s n : Nat} {v : Value} {xs : List Value} (h : w.ownsRow B e s v n xs) (hn : 0 < n) : ∃ g cap, v = .slice (some ⟨g, 0, none⟩) n cap ∧ B ≤ g := by
  rcases h.2 with ⟨-, h0⟩ | ⟨g, cap, cur, hv, hb, -⟩
  · omega
  · exact ⟨g, cap, hv, hb⟩
theorem RCells.upd {C k : Nat} {w : World} {xs : List Value} {os : List RO} {o : RO} {wv bv : Value} {ws : List Nat} (h : RCells C w xs os) (hk : os[k]? = some o) (hw : WordsAt w wv ws) (hb : BytesAt w bv o.bytes) (hu : Up C wv) (hv : Up C bv) :
    RCells C w ((xs.set (k * 8 + 6) wv).set (k * 8 + 7) bv) (os.set k { o with words := ws }) := by
  have hkl := (List.getElem?_eq_some_iff.1 hk).1
  have hl := h.1
  refine ⟨by simp; omega, fun i o' ho' => ?_⟩
  by_cases e : k = i
  · subst e
    rw [List.getElem?_set_self hkl] at ho'
    injection ho' with ho'
    subst ho'
    obtain ⟨wv0, bv0, c0, c1, c2, c3, c4, c5, c6, c7, c8, c9⟩ := h.2 k o hk
    refine ⟨wv, bv, ?_, ?_, ?_, ?_, ?_, ?_, ?_, ?_, hw, hb, hu, hv⟩
    · rw [List.getElem?_set_ne (by omega), List.getElem?_set_ne (by omega)]; exact c0
    · rw [List.getElem?_set_ne (by omega), List.getElem?_set_ne (by omega)]; exact c1
    · rw [List.getElem?_set_ne (by omega), List.getElem?_set_ne (by omega)]; exact c2
    · rw [List.getElem?_set_ne (by omega), List.getElem?_set_ne (by omega)]; exact c3
    · rw [List.getElem?_set_ne (by omega), List.getElem?_set_ne (by omega)]; exact c4
    · rw [List.getElem?_set_ne (by omega), List.getElem?_set_ne (by omega)]; exact c5
    · rw [List.getElem?_set_ne (by omega), List.getElem?_set_self (by omega)]
    · rw [List.getElem?_set_self (by rw [List.length_set]; omega)]
  · rw [List.getElem?_set_ne e] at ho'
    have hil := (List.getElem?_eq_some_iff.1 ho').1
    obtain ⟨wv0, bv0, c0, c1, c2, c3, c4, c5, c6, c7, c8, c9⟩ := h.2 i o' ho'
    refine ⟨wv0, bv0, ?_, ?_, ?_, ?_, ?_, ?_, ?_, ?_, c8, c9⟩
    · rw [List.getElem?_set_ne (by omega), List.getElem?_set_ne (by omega)]; exact c0
    · rw [List.getElem?_set_ne (by omega), List.getElem?_set_ne (by omega)]; exact c1
    · rw [List.getElem?_set_ne (by omega), List.getElem?_set_ne (by omega)]; exact c2
    · rw [List.getElem?_set_ne (by omega), List.getElem?_set_ne (by omega)]; exact c3
    · rw [List.getElem?_set_ne (by omega), List.getElem?_set_ne (by omega)]; exact c4
    · rw [List.getElem?_set_ne (by omega), List.getElem?_set_ne (by omega)]; exact c5
    · rw [List.getElem?_set_ne (by omega), List.getElem?_set_ne (by omega)]; exact c6
    · rw [List.getElem?_set_ne (by omega), List.getElem?_set_ne (by omega)]; exact c7
/-- where an object's words lie behind 'own': what is stored there is the object's -/
def Owned (C : Nat) (w0 w w' : World) (v : Value) (os : List RO) (k : Nat) (o : RO) (g2 c2 : Nat) : Prop :=
  ∀ W ws, (∀ q, q < w0.heap.size ∨ w.heap.size ≤ q → q < w'.heap.size → q ≠ g2 → W.heap[q]? = w'.heap[q]?) → W.ownsRow w.heap.size 37 1 (.slice (some ⟨g2, 0, none⟩) o.words.length c2) o.words.length (wordVals ws) → RObjs C W v (os.set k { o with words := ws })
set_option maxRecDepth 100000 in
set_option maxHeartbeats 4000000 in
theorem rown_any (C : Nat) (cells : Int) (lv : Value) (os : List RO) (k : Nat) (o : RO) (w0 w : World) (h0 : RObjs C w0 lv os) (hW : Below w0.heap.size w0 w) (hC : C ≤ w.heap.size) (hk : os[k]? = some o) (hw0 : 0 < o.words.length) (hw1 : o.words.length ≤ 100) (hb1 : o.bytes.length ≤ 100) (hn : os.length ≤ 20) :
    Calls Tryd.prog 47 #[.agg #[.int .i64 cells, lv, .int .u32 0], .int .i64 (k : Int)] w fun e w' => ∃ (g cap g2 c2 : Nat), e = .returned (.agg #[.int .i64 cells, .slice (some ⟨g, 0, none⟩) os.length cap, .int .u32 0]) ∧ g ≠ g2 ∧ w.heap.size ≤ g2 ∧ w.heap.size ≤ g ∧ g < w'.heap.size ∧
      w'.cell? ⟨g, k * 8 + 6, none⟩ = some (.slice (some ⟨g2, 0, none⟩) o.words.length c2) ∧ w'.ownsRow w.heap.size 37 1 (.slice (some ⟨g2, 0, none⟩) o.words.length c2) o.words.length (wordVals o.words) ∧
      Owned C w0 w w' (.slice (some ⟨g, 0, none⟩) os.length cap) os k o g2 c2 ∧ Below w.heap.size w w' := by
  obtain ⟨i0, hi, hz0, hz1, hz2⟩ := info_parts objInfo
  obtain ⟨i1, hi1, hy0, hy1, hy2⟩ := info_parts wordInfo
  have hkl : k < os.length := (List.getElem?_eq_some_iff.1 hk).1
  obtain ⟨a, cap, xs, rfl, h1, h2, k3, k4, h5, h6⟩ := h0
  have h3 := k3.later hW
  have h4 := k4.later hW
  have HWS := Lib.hid (show ∀ q, q < w0.heap.size → w.heap[q]? = w0.heap[q]? from hW.block)
  have hw0z := hW.size
  have hxl := h4.1
  obtain ⟨wv, bv, -, -, -, -, -, -, q6, q7, hwv, hbv, hu1, hu2⟩ := h4.2 k o hk
  obtain ⟨wa, wc, rfl, wl, wm, wr, -⟩ := hwv
  obtain ⟨ba, bc, hbe, bl, bm, -, -⟩ := id hbv
  subst hbe
  have HB := Lib.hid hbv
  have HX := Lib.hid k4
  clear k3 k4 hW
  rcases h3 with h3 | ⟨b, q, rfl, hc⟩
  · rw [h3] at hxl; simp at hxl; omega
  rcases wr with wr | ⟨wb, wo, rfl, wcc⟩
  · have : o.words.length = 0 := by rw [← wordVals_length, wr]; rfl
    omega
  have HR := Lib.hid (show ∀ W, Below w.heap.size w W → ∀ j u, xs[j]? = some u → W.cell? ((⟨b, q, none⟩ : Addr).add j) = some u from fun W hW => RowAt.add (RowAt.later (Or.inr ⟨b, q, rfl, hc⟩) hW))
  have HW := Lib.hid (show ∀ W, Below w.heap.size w W → ∀ j u, (wordVals o.words)[j]? = some u → W.cell? ((⟨wb, wo, none⟩ : Addr).add j) = some u from fun W hW => RowAt.add (RowAt.later (Or.inr ⟨wb, wo, rfl, wcc⟩) hW))
  have HBX := Lib.hid (show Below w.heap.size w (((w.alloc (.cells #[.int .i64 cells, .slice (some ⟨b, q, none⟩) os.length cap, .int .u32 0] 31)).alloc (.cells #[.int .i64 0, .slice none 0 0, .int .u32 0] 31)).alloc (.cells #[] 43)) from (((Below.refl _ w).alloc (Nat.le_refl _) _).alloc (by simp) _).alloc (by simp; omega) _)
  have ho : (((w.alloc (.cells #[.int .i64 cells, .slice (some ⟨b, q, none⟩) os.length cap, .int .u32 0] 31)).alloc (.cells #[.int .i64 0, .slice none 0 0, .int .u32 0] 31)).alloc (.cells #[] 43)).ownsRow (w.heap.size + 1 + 1) 43 8 (.slice (some ⟨w.heap.size + 1 + 1, 0, none⟩) 0 0) 0 [] := by
    have := World.ownsRow_lit (base := w.heap.size + 1 + 1) (size := 8) (e := 43) ((w.alloc (.cells #[.int .i64 cells, .slice (some ⟨b, q, none⟩) os.length cap, .int .u32 0] 31)).alloc (.cells #[.int .i64 0, .slice none 0 0, .int .u32 0] 31)) #[] 0 (by simp) (by decide) rfl
    simpa using this
  have hbx : (((w.alloc (.cells #[.int .i64 cells, .slice (some ⟨b, q, none⟩) os.length cap, .int .u32 0] 31)).alloc (.cells #[.int .i64 0, .slice none 0 0, .int .u32 0] 31)).alloc (.cells #[] 43)).heap[w.heap.size]? = some (.cells #[.int .i64 cells, .slice (some ⟨b, q, none⟩) os.length cap, .int .u32 0] 31 (0, 0)) := by
    rw [Below.heap_alloc _ _ _ (by simp; omega), Below.heap_alloc _ _ _ (by simp)]; exact heap_alloc_new w _
  have hres : (((w.alloc (.cells #[.int .i64 cells, .slice (some ⟨b, q, none⟩) os.length cap, .int .u32 0] 31)).alloc (.cells #[.int .i64 0, .slice none 0 0, .int .u32 0] 31)).alloc (.cells #[] 43)).heap[w.heap.size + 1]? = some (.cells #[.int .i64 0, .slice none 0 0, .int .u32 0] 31 (0, 0)) := by
    rw [Below.heap_alloc _ _ _ (by simp)]
    have := heap_alloc_new (w.alloc (.cells #[.int .i64 cells, .slice (some ⟨b, q, none⟩) os.length cap, .int .u32 0] 31)) (.cells #[.int .i64 0, .slice none 0 0, .int .u32 0] 31)
    simpa using this
  have HBXC := Lib.hid hbx
  have HRES := Lib.hid hres
  have HO := Lib.hid ho
  unfold maxLen at h2 wm bm
  clear hc wcc ho h4 hbv hbx hres
  go_enter Tryd.func47, Tryd.ntmps47
  go_wp2_with (at_builtin; refine wpList_append_own _ rfl _ _ 28 rfl (w.heap.size + 1 + 1) 43 i0 _ 8 88 Tryd.underlying28 hi hz0 hz1 hz2 rfl (by decide) _ _ _ rfl HO.out ⟨b, q, none⟩ os.length cap xs rfl (by omega) (HR.out _ HBX.out) ?c2 ?c3 ?c4 ?c5 ?_)
  case c2 => exact HX.out.ones
  case c3 => unfold maxLen; omega
  case c4 => omega
  case c5 => simp
  intro v' w1 hown' hgrow _
  obtain ⟨g, cap1, rfl, hg1⟩ := owns_shape hown' (by omega)
  have e1 := (hgrow.block w.heap.size (by simp; omega) (by simp [Value.ownBlock]; omega)).trans HBXC.out
  have r1 := (hgrow.block (w.heap.size + 1) (by simp) (by simp [Value.ownBlock])).trans HRES.out
  have hb1' := HBX.out.grown hgrow (by simp; omega) (fun p hp => by simp [Value.ownBlock] at hp; omega)
  have y1 := cellO e1 1
  have f1 : w1.frozen? ⟨w.heap.size, 1, none⟩ = false := by unfold World.frozen?; rw [e1]; rfl
  simp at y1
  have E1 := Lib.hid e1; have R1 := Lib.hid r1; have B1 := Lib.hid hb1'; have O1 := Lib.hid hown'
  have hlt1 : w.heap.size + 1 < w1.heap.size := (Array.getElem?_eq_some_iff.1 r1).1
  clear e1 r1 hb1' hown' hgrow HBX HO HBXC HRES
  go_upto_region 2 with fail
  obtain ⟨w2, hw2⟩ : ∃ w2, w2 = w1.setCell ⟨w.heap.size, 1, none⟩ (.slice (some ⟨g, 0, none⟩) os.length cap1) := ⟨_, rfl⟩
  rw [← hw2]
  have e2 : w2.heap[w.heap.size]? = some (.cells #[.int .i64 cells, .slice (some ⟨g, 0, none⟩) os.length cap1, .int .u32 0] 31 (0, 0)) := by rw [hw2]; exact heap_setCell_same w1 w.heap.size 1 _ _ _ E1.out
  have r2 : w2.heap[w.heap.size + 1]? = some (.cells #[.int .i64 0, .slice none 0 0, .int .u32 0] 31 (0, 0)) := by rw [hw2, Below.heap_setCell _ _ _ _ (by simp)]; exact R1.out
  have o2 : w2.ownsRow (w.heap.size + 1 + 1) 43 8 (.slice (some ⟨g, 0, none⟩) os.length cap1) os.length xs := by rw [hw2]; exact ownsRow_setCell_below O1.out (by simp; omega) _
  have b2 : Below w.heap.size w w2 := by rw [hw2]; exact B1.out.setCell (by simp) _
  have hg2 : g < w2.heap.size := (o2.lt g (by simp [Value.ownBlock])).2
  have y2 := cellO e2 1
  simp at y2
  have z2 : w2.cell? ⟨g, k * 8 + 6, none⟩ = some (.slice (some ⟨wb, wo, none⟩) o.words.length wc) := (o2.cellAt (k * 8 + 6) (by omega)).trans q6
  have hlt2 : w.heap.size + 1 < w2.heap.size := (Array.getElem?_eq_some_iff.1 r2).1
  have n1 : w2.heap.size ≠ w.heap.size := World.new_ne w2 _ y2
  have n2 : w2.heap.size ≠ g := World.new_ne w2 _ z2
  have n5 : w.heap.size < w2.heap.size := by omega
  have n3 : ¬ w.heap.size = g := by omega
  have n4 : ¬ g = w.heap.size := by omega
  have E2 := Lib.hid e2; have R2 := Lib.hid r2; have B2 := Lib.hid b2; have O2 := Lib.hid o2
  have HO2 := Lib.hid (World.ownsRow_lit (base := w2.heap.size) (size := 1) (e := 37) w2 #[] 0 (Nat.le_refl _) (by decide) rfl)
  clear hw2 e2 r2 o2 b2 y1 f1
  go_cut [] from 10 to 22 (fun wx => ∃ (g2 c2 : Nat) (w3 : World), Below w2.heap.size w2 w3 ∧ w3.ownsRow w2.heap.size 37 1 (.slice (some ⟨g2, 0, none⟩) o.words.length c2) o.words.length (wordVals o.words) ∧ wx = w3.setCell ⟨g, k * 8 + 6, none⟩ (.slice (some ⟨g2, 0, none⟩) o.words.length c2))
  case first =>
    go_region_law
      (first | (refine step_append_lies _ (by rfl) _ _ _ (by rfl) w2.heap.size 37 i1 _ 1 8 Tryd.underlying23 hi1 hy0 hy1 hy2 rfl (by omega) (.slice (some ⟨w2.heap.size, 0, none⟩) 0 0) 0 [] (by rfl) HO2.out ⟨wb, wo, none⟩ o.words.length wc (wordVals o.words) (by rfl) (by rw [wordVals_length]; omega) (HW.out _ (B2.out.alloc (by omega) _).drew) (by intro u hu; simp only [wordVals, List.mem_map] at hu; obtain ⟨x, _, rfl⟩ := hu; rfl) (by omega) (by unfold maxLen; omega) (by omega) (by simp) (w2.heap.size + 1) (by simp) ?_; intro g2 c2 w3 hown3 hgrow3 hat3 hlt3; rw [Nat.zero_add, List.nil_append] at hown3; rw [Nat.zero_add]; have o3 := ((O2.out.alloc (.cells #[] 37)).drew).kept hgrow3 (Or.inr (by simp [Value.ownBlock]; omega)); have j2 := (o3.cellAt (k * 8 + 6) (by omega)).trans q6; have f3 := o3.frozenAt (k * 8 + 6); have j1 := (hgrow3.cell_far ⟨w.heap.size, 1, none⟩ (by simp; omega) (by simp [Value.ownBlock]; omega)).trans ((World.cell?_alloc_past (.cells #[] 37) w.heap.size 1 (by omega)).trans y2)))
    all_goals (go_wp2_with fail)
    all_goals go_meet
    all_goals exact ⟨_, _, _, ((Below.refl _ w2).alloc (Nat.le_refl _) (.cells #[] 37)).drew.grown hgrow3 (by simp) (fun p hp => by simp [Value.ownBlock] at hp; omega), hown3, rfl⟩
  case rest =>
    obtain ⟨g2, c2, w3, b3, o3, hwc⟩ := hcut
    obtain ⟨w4, hw4⟩ : ∃ w4, w4 = wc := ⟨_, rfl⟩
    rw [← hw4]
    rw [← hw4] at hwc
    clear hw4
    have hz3 := b3.size
    have g2l := o3.lt g2 (by simp [Value.ownBlock])
    have O3 : w3.ownsRow (w.heap.size + 1 + 1) 43 8 (.slice (some ⟨g, 0, none⟩) os.length cap1) os.length xs := owns_later O2.out b3
    have o4 : w4.ownsRow w2.heap.size 37 1 (.slice (some ⟨g2, 0, none⟩) o.words.length c2) o.words.length (wordVals o.words) := by rw [hwc]; exact ownsRow_setCell_below o3 (by simp; omega) _
    have p4 : w4.ownsRow (w.heap.size + 1 + 1) 43 8 (.slice (some ⟨g, 0, none⟩) os.length cap1) os.length (xs.set (k * 8 + 6) (.slice (some ⟨g2, 0, none⟩) o.words.length c2)) := by rw [hwc]; exact (O3.stored (k * 8 + 6) _).1
    have e4 : w4.heap[w.heap.size]? = some (.cells #[.int .i64 cells, .slice (some ⟨g, 0, none⟩) os.length cap1, .int .u32 0] 31 (0, 0)) := by rw [hwc, Below.heap_setCell _ _ _ _ (by simp; omega), b3.block _ (by omega)]; exact E2.out
    have r4 : w4.heap[w.heap.size + 1]? = some (.cells #[.int .i64 0, .slice none 0 0, .int .u32 0] 31 (0, 0)) := by rw [hwc, Below.heap_setCell _ _ _ _ (by simp; omega), b3.block _ (by omega)]; exact R2.out
    have b4 : Below w.heap.size w w4 := by rw [hwc]; exact (B2.out.trans (b3.mono (by omega))).setCell (by simp; omega) _
    have hz4 : w3.heap.size = w4.heap.size := by rw [hwc]; simp [World.setCell]
    have y4 := cellO e4 1
    have hol := hk
    simp at y4
    have q7' : (xs.set (k * 8 + 6) (.slice (some ⟨g2, 0, none⟩) o.words.length c2))[k * 8 + 7]? = some (.slice ba o.bytes.length bc) := by rw [List.getElem?_set_ne (by omega)]; exact q7
    have z4 : w4.cell? ⟨g, k * 8 + 7, none⟩ = some (.slice ba o.bytes.length bc) := (p4.cellAt (k * 8 + 7) (by omega)).trans q7'
    have f4 : w4.frozen? ⟨g, k * 8 + 7, none⟩ = false := p4.frozenAt (k * 8 + 7)
    have m1 : g < w4.heap.size := by omega
    have m2 : w.heap.size < w4.heap.size := by omega
    have HO4 := Lib.hid o4; have HP4 := Lib.hid p4; have HE4 := Lib.hid e4; have HR4 := Lib.hid r4; have HB4 := Lib.hid b4
    have CP := Lib.hid (show Calls Tryd.prog 62 #[.slice ba o.bytes.length bc] w4.drew _ from copy_any _ o.bytes w4.drew (HB.out.later (b4.drew)) (by omega))
    clear O3 hwc o4 p4 e4 r4 b4 y2 z2 o3 b3
    go_upto_region 3 with fail
    go_cut [] from 23 to 34 (fun wx => ∃ (v5 : Value) (w5 : World), OwnsB w5 w4.heap.size v5 o.bytes ∧ Below w4.heap.size w4 w5 ∧ wx = w5.setCell ⟨g, k * 8 + 7, none⟩ v5)
    case first =>
      go_region_with (go_at_call 62; go_loud (refine CP.out.mono ?_; rintro e w5 ⟨v5, rfl, ho5, hg5⟩; obtain ⟨a5, c5, rfl⟩ := ownsB_shape ho5; have y5 : w5.cell? ⟨w.heap.size, 1, none⟩ = some (.slice (some ⟨g, 0, none⟩) os.length cap1) := (hg5.cell (p := ⟨w.heap.size, 1, none⟩) m2).trans y4; have z5 : w5.cell? ⟨g, k * 8 + 7, none⟩ = some (.slice ba o.bytes.length bc) := (hg5.cell (p := ⟨g, k * 8 + 7, none⟩) m1).trans z4; have f5 : w5.frozen? ⟨g, k * 8 + 7, none⟩ = false := (hg5.frozen (p := ⟨g, k * 8 + 7, none⟩) m1).trans f4; have HO5 := Lib.hid ho5; have HG5 := Lib.hid hg5; clear ho5 hg5))
      all_goals (go_wp2_with fail)
      all_goals go_meet
      all_goals exact ⟨_, _, HO5.out, ⟨HG5.out.os, HG5.out.tape, HG5.out.output, HG5.out.size, HG5.out.block⟩, rfl⟩
    case rest =>
      obtain ⟨v5, w5, o5, b5, hwc⟩ := hcut
      obtain ⟨w6, hw6⟩ : ∃ w6, w6 = wc := ⟨_, rfl⟩
      rw [← hw6]
      rw [← hw6] at hwc
      clear hw6
      have hz5 := b5.size
      have o6 : OwnsB w6 w4.heap.size v5 o.bytes := by rw [hwc]; exact ownsRow_setCell_below o5 (by simp; omega) _
      have p6 : w6.ownsRow (w.heap.size + 1 + 1) 43 8 (.slice (some ⟨g, 0, none⟩) os.length cap1) os.length ((xs.set (k * 8 + 6) (.slice (some ⟨g2, 0, none⟩) o.words.length c2)).set (k * 8 + 7) v5) := by rw [hwc]; exact ((owns_later HP4.out b5).stored (k * 8 + 7) _).1
      have s6 : w6.ownsRow w2.heap.size 37 1 (.slice (some ⟨g2, 0, none⟩) o.words.length c2) o.words.length (wordVals o.words) := by rw [hwc]; exact ownsRow_setCell_below (owns_later HO4.out b5) (by simp; omega) _
      have e6 : w6.heap[w.heap.size]? = some (.cells #[.int .i64 cells, .slice (some ⟨g, 0, none⟩) os.length cap1, .int .u32 0] 31 (0, 0)) := by rw [hwc, Below.heap_setCell _ _ _ _ (by simp; omega), b5.block _ (by omega)]; exact HE4.out
      have r6 : w6.heap[w.heap.size + 1]? = some (.cells #[.int .i64 0, .slice none 0 0, .int .u32 0] 31 (0, 0)) := by rw [hwc, Below.heap_setCell _ _ _ _ (by simp; omega), b5.block _ (by omega)]; exact HR4.out
      have b6 : Below w.heap.size w w6 := by rw [hwc]; exact (HB4.out.trans (b5.mono (by omega))).setCell (by simp; omega) _
      have hz6 : w5.heap.size = w6.heap.size := by rw [hwc]; simp [World.setCell]
      have OW : ∀ W7 : World, (∀ q, q < w6.heap.size → q ≠ w.heap.size + 1 → W7.heap[q]? = w6.heap[q]?) → w6.heap.size ≤ W7.heap.size → Owned C w0 w W7 (.slice (some ⟨g, 0, none⟩) os.length cap1) os k o g2 c2 := by
        intro W7 h7 z7 W ws hq how
        have hC6 : ∀ q, q < w0.heap.size ∨ w.heap.size ≤ q → q < w6.heap.size → q ≠ w.heap.size + 1 → q ≠ g2 → W.heap[q]? = w6.heap[q]? := fun q l0 l1 l2 l3 => (hq q l0 (by omega) l3).trans (h7 q l1 l2)
        have hx : RCells C W xs os := HX.out.stays (fun q l1 l2 => (hC6 q (Or.inl l2) (by omega) (by omega) (by omega)).trans ((b6.block q (by omega)).trans (HWS.out q l2)))
        have hbW : BytesAt W v5 o.bytes := (bytes_of_owns o6).stays (C := w4.heap.size) (up_owns o6 (Nat.le_refl _)) (fun q l1 l2 => hC6 q (Or.inr (by omega)) l2 (by omega) (by omega))
        have hwW : WordsAt W (.slice (some ⟨g2, 0, none⟩) o.words.length c2) ws := words_of_owns how
        have hrc := hx.upd hk hwW hbW (up_some (by omega)) (up_owns o6 (by omega))
        obtain ⟨a8, c8, ha8, l1, l2, l3, l4⟩ := row_of_owns_any p6
        simp at ha8
        obtain ⟨rfl, rfl⟩ := ha8
        refine ⟨some ⟨g, 0, none⟩, cap1, _, by rw [List.length_set], by rw [List.length_set]; exact l1, l2, ?_, hrc, fun h => by simp at h, by rw [List.length_set]; exact up_some (by omega)⟩
        rcases l3 with l3 | ⟨bb, oo, hbb, hcc⟩
        · exact Or.inl l3
        · simp at hbb
          obtain ⟨rfl, rfl⟩ := hbb
          refine Or.inr ⟨g, 0, rfl, fun j hj => ?_⟩
          rw [← hcc j hj]
          exact World.cell?_of_block (hC6 g (Or.inr (by omega)) (by omega) (by omega) (by omega))
      have w6c : w6.cell? ⟨g, k * 8 + 6, none⟩ = some (.slice (some ⟨g2, 0, none⟩) o.words.length c2) := (p6.cellAt (k * 8 + 6) (by omega)).trans (by rw [List.getElem?_set_ne (by omega), List.getElem?_set_self (by omega)])
      have u0 := cellO e6 0
      have u1 := cellO e6 1
      have u2 := cellO e6 2
      have v0 := cellO r6 0
      have v1 := cellO r6 1
      have v2 := cellO r6 2
      have fz : ∀ i, w6.frozen? ⟨w.heap.size + 1, i, none⟩ = false := fun i => by unfold World.frozen?; rw [r6]; rfl
      have fz0 := fz 0
      have fz1 := fz 1
      have fz2 := fz 2
      simp at u0 u1 u2 v0 v1 v2
      have OWH := Lib.hid OW; have S6 := Lib.hid s6; have B6 := Lib.hid b6; have W6C := Lib.hid w6c; have R6 := Lib.hid r6
      clear OW s6 b6 w6c e6 r6 fz p6 o6 hwc o5 b5 z4 f4 y4
      go_wp2_with fail
      obtain ⟨w7, hw7⟩ : ∃ w7, w7 = (((w6.setCell ⟨w.heap.size + 1, 0, none⟩ (.int .i64 cells)).setCell ⟨w.heap.size + 1, 1, none⟩ (.slice (some ⟨g, 0, none⟩) os.length cap1)).setCell ⟨w.heap.size + 1, 2, none⟩ (.int .u32 0)) := ⟨_, rfl⟩
      rw [← hw7]
      have r7 : w7.heap[w.heap.size + 1]? = some (.cells #[.int .i64 cells, .slice (some ⟨g, 0, none⟩) os.length cap1, .int .u32 0] 31 (0, 0)) := by
        rw [hw7, heap_setCell_same _ _ _ _ _ _ (heap_setCell_same _ _ _ _ _ _ (heap_setCell_same _ _ _ _ _ _ R6.out))]; rfl
      have q7 : ∀ q, q ≠ w.heap.size + 1 → w7.heap[q]? = w6.heap[q]? := fun q hq => by rw [hw7, Below.heap_setCell _ _ _ _ hq, Below.heap_setCell _ _ _ _ hq, Below.heap_setCell _ _ _ _ hq]
      have hz7 : w7.heap.size = w6.heap.size := by rw [hw7]; simp [World.setCell]
      have b7 : Below w.heap.size w w7 := by rw [hw7]; exact ((B6.out.setCell (by simp) _).setCell (by simp) _).setCell (by simp) _
      have s7 : w7.ownsRow w2.heap.size 37 1 (.slice (some ⟨g2, 0, none⟩) o.words.length c2) o.words.length (wordVals o.words) := by rw [hw7]; exact ownsRow_setCell_below (ownsRow_setCell_below (ownsRow_setCell_below S6.out (by simp; omega) _) (by simp; omega) _) (by simp; omega) _
      have t0 := cellO r7 0
      have t1 := cellO r7 1
      have t2 := cellO r7 2
      simp at t0 t1 t2
      refine bodyPost_ret (v := .agg #[.int .i64 cells, .slice (some ⟨g, 0, none⟩) os.length cap1, .int .u32 0]) (by simp [results, Tryd.results47, go_sem, t0, t1, t2]) rfl ⟨g, cap1, rfl, g2, by omega, by omega, by omega, by omega, c2, ?_, ?_, OWH.out w7 (fun q _ hq => q7 q hq) (by omega), b7⟩
      · rw [World.cell?_of_block (w := w6) (a := ⟨g, k * 8 + 6, none⟩) (q7 g (by omega))]; exact W6C.out
      · exact owns_mono s7 (by omega)
end Go.Proofs.YtobajnodckiohaaDoor
namespace Go.Proofs.YtobajnodckiohaaDoor
open Go.RowKit
set_option linter.unusedVariables false
theorem owns_up {w : World} {B B' e s n g c : Nat} {xs : List Value} (h : w.ownsRow B e s (.slice (some ⟨g, 0, none⟩) n c) n xs) (hB : B' ≤ g) : w.ownsRow B' e s (.slice (some ⟨g, 0, none⟩) n c) n xs := by
  refine ⟨h.1, ?_⟩
  rcases h.2 with ⟨h2, -⟩ | ⟨g', cap, cur, a, b, c⟩
  · simp at h2
  · have e := a
    simp at e
    refine Or.inr ⟨g', cap, cur, a, by omega, c⟩
theorem wordVals_set (l : List Nat) (i x : Nat) : (wordVals l).set i (.int .u64 (x : Int)) = wordVals (l.set i x) := by
  unfold wordVals; rw [List.map_set]; rfl
set_option maxRecDepth 100000 in
set_option maxHeartbeats 400000 in
theorem rput_yes (C : Nat) (cells : Int) (lv : Value) (os : List RO) (x k i v : Nat) (o : RO) (w : World) (h : RObjs C w lv os) (hC : C ≤ w.heap.size) (hb : ∀ o, o ∈ os → o.at_ ≤ 1000000) (hk : IsAt os x k) (ho : os[k]? = some o) (hkd : o.kind ≠ 2) (hl : o.words.length = 3) (hbl : o.bytes.length ≤ 100) (hn : os.length ≤ 20) (hi : i < 3) (hv : v < 18446744073709551616) :
    Calls Tryd.prog 20 #[.agg #[.int .i64 cells, lv, .int .u32 0], .int .u64 (x : Int), .int .i64 (i : Int), .int .u64 (v : Int)] w fun e w' => ∃ lv', e = .returned (.tuple #[.agg #[.int .i64 cells, lv', .int .u32 0], .int .i64 0]) ∧ RObjs C w' lv' (os.set k { o with words := o.words.set i v }) ∧ Below w.heap.size w w' := by
  have hkl : k < os.length := (List.getElem?_eq_some_iff.1 ho).1
  have CK := Lib.hid (fun W (hW : Below w.heap.size w W) => rcheck_any C cells lv os x k (i : Int) W (h.later hW) hb hk (fun o' ho' => by rw [ho] at ho'; injection ho' with ho'; subst ho'; exact hkd) (by omega) (by omega))
  have OW := Lib.hid (fun W (hW : Below w.heap.size w W) => rown_any C cells lv os k o w W h hW (Nat.le_trans hC hW.size) ho (by omega) (by omega) hbl hn)
  obtain ⟨a, cap, xs, rfl, -⟩ := h
  clear hb hk ho hkd
  obtain ⟨n, hn'⟩ : ∃ n, os.length = n := ⟨_, rfl⟩
  rw [hn'] at CK OW hkl hn ⊢
  clear hn'
  go_enter Tryd.func20, Tryd.ntmps20
  go_wp2_with fail
  obtain ⟨w2, hw2⟩ : ∃ w2, w2 = (w.alloc (.cells #[.int .i64 cells, .slice a n cap, .int .u32 0] 31)).alloc (.cells #[.int .i64 0, .slice none 0 0, .int .u32 0] 31) := ⟨_, rfl⟩
  rw [← hw2]
  have e2 : w2.heap[w.heap.size]? = some (.cells #[.int .i64 cells, .slice a n cap, .int .u32 0] 31 (0, 0)) := by rw [hw2, Below.heap_alloc _ _ _ (by simp)]; exact heap_alloc_new w _
  have r2 : w2.heap[w.heap.size + 1]? = some (.cells #[.int .i64 0, .slice none 0 0, .int .u32 0] 31 (0, 0)) := by
    have := heap_alloc_new (w.alloc (.cells #[.int .i64 cells, .slice a n cap, .int .u32 0] 31)) (.cells #[.int .i64 0, .slice none 0 0, .int .u32 0] 31)
    rw [hw2]; simpa using this
  have b2 : Below w.heap.size w w2 := by rw [hw2]; exact ((Below.refl _ w).alloc (Nat.le_refl _) _).alloc (by simp) _
  have hz2 : w2.heap.size = w.heap.size + 1 + 1 := by rw [hw2]; simp
  clear hw2
  refine (CK.out w2 b2).mono ?_
  rintro e w3 ⟨rfl, hg3⟩
  have e3 := (hg3.block w.heap.size (by omega)).trans e2
  have r3 := (hg3.block (w.heap.size + 1) (by omega)).trans r2
  have b3 := b2.trans (hg3.mono b2.size)
  have hz3 := hg3.size
  have y0 := cellO e3 0
  have y1 := cellO e3 1
  have y2 := cellO e3 2
  simp at y0 y1 y2
  have E3 := Lib.hid e3; have R3 := Lib.hid r3; have B3 := Lib.hid b3
  clear e2 r2 b2 hg3 e3 r3 b3
  go_wp2_with fail
  refine (OW.out w3 B3.out).mono ?_
  rintro e w4 ⟨g, cap4, g2, c2, rfl, hne, hg2, hg0, hgl, hc6, hrow, hown, hg4⟩
  have e4 := (hg4.block w.heap.size (by omega)).trans E3.out
  have r4 := (hg4.block (w.heap.size + 1) (by omega)).trans R3.out
  have b4 := B3.out.trans (hg4.mono B3.out.size)
  have hz4 := hg4.size
  have fe : ∀ i, w4.frozen? ⟨w.heap.size, i, none⟩ = false := fun i => by unfold World.frozen?; rw [e4]; rfl
  have fe0 := fe 0
  have fe1 := fe 1
  have fe2 := fe 2
  have z0 := cellO e4 0
  have z1 := cellO e4 1
  have z2 := cellO e4 2
  simp at z0 z1 z2
  have hg2l := hrow.lt g2 (by simp [Value.ownBlock])
  have m1 : ¬ w.heap.size = g := by omega
  have m2 : ¬ w.heap.size + 1 = g := by omega
  have m3 : ¬ w.heap.size = g2 := by omega
  have m4 : ¬ w.heap.size + 1 = g2 := by omega
  have k6 := (hrow.cellAt i (by omega)).trans (show (wordVals o.words)[i]? = some (.int .u64 ((o.words[i]'(by omega) : Nat) : Int)) by simp [wordVals, show i < o.words.length by omega])
  have f6 := hrow.frozenAt i
  generalize (o.words[i]'(by omega)) = oldw at k6
  have R4 := Lib.hid r4; have B4 := Lib.hid b4; have E4 := Lib.hid e4; have HROW := Lib.hid hrow; have HOWN := Lib.hid hown
  rw [hl] at hc6
  clear r4 b4 e4 hrow hown fe hg4 hg2l
  go_upto_region 5 with fail
  obtain ⟨w5, hw5⟩ : ∃ w5, w5 = (((w4.setCell ⟨w.heap.size, 0, none⟩ (.int .i64 cells)).setCell ⟨w.heap.size, 1, none⟩ (.slice (some ⟨g, 0, none⟩) n cap4)).setCell ⟨w.heap.size, 2, none⟩ (.int .u32 0)) := ⟨_, rfl⟩
  rw [← hw5]
  have e5 : w5.heap[w.heap.size]? = some (.cells #[.int .i64 cells, .slice (some ⟨g, 0, none⟩) n cap4, .int .u32 0] 31 (0, 0)) := by
    rw [hw5, heap_setCell_same _ _ _ _ _ _ (heap_setCell_same _ _ _ _ _ _ (heap_setCell_same _ _ _ _ _ _ E4.out))]; rfl
  have q5 : ∀ q, q ≠ w.heap.size → w5.heap[q]? = w4.heap[q]? := fun q hq => by rw [hw5, Below.heap_setCell _ _ _ _ hq, Below.heap_setCell _ _ _ _ hq, Below.heap_setCell _ _ _ _ hq]
  have hz5 : w5.heap.size = w4.heap.size := by rw [hw5]; simp [World.setCell]
  have b5 : Below w.heap.size w w5 := by rw [hw5]; exact ((B4.out.setCell (by simp) _).setCell (by simp) _).setCell (by simp) _
  have s5 : w5.ownsRow (w.heap.size + 1) 37 1 (.slice (some ⟨g2, 0, none⟩) o.words.length c2) o.words.length (wordVals o.words) := by rw [hw5]; exact ownsRow_setCell_below (ownsRow_setCell_below (ownsRow_setCell_below (owns_mono HROW.out (by omega)) (by simp) _) (by simp) _) (by simp) _
  clear hw5 z0 z1 z2 fe0 fe1 fe2 k6 f6
  have y1 := cellO e5 1
  simp at y1
  have hc5 := (World.cell?_of_block (w := w4) (a := ⟨g, k * 8 + 6, none⟩) (q5 g (by omega))).trans hc6
  have k6 := (s5.cellAt i (by omega)).trans (show (wordVals o.words)[i]? = some (.int .u64 ((o.words[i]'(by omega) : Nat) : Int)) by simp [wordVals, show i < o.words.length by omega])
  have f6 := s5.frozenAt i
  generalize (o.words[i]'(by omega)) = oldw at k6
  have E5 := Lib.hid e5; have Q5 := Lib.hid q5; have B5 := Lib.hid b5; have S5 := Lib.hid s5
  clear e5 q5 b5 s5 hc6
  go_upto_region 6 with fail
  obtain ⟨w6, hw6⟩ : ∃ w6, w6 = w5.setCell ⟨g2, i, none⟩ (.int .u64 (v : Int)) := ⟨_, rfl⟩
  rw [← hw6]
  have e6 : w6.heap[w.heap.size]? = some (.cells #[.int .i64 cells, .slice (some ⟨g, 0, none⟩) n cap4, .int .u32 0] 31 (0, 0)) := by rw [hw6, Below.heap_setCell _ _ _ _ m3]; exact E5.out
  have r6 : w6.heap[w.heap.size + 1]? = some (.cells #[.int .i64 0, .slice none 0 0, .int .u32 0] 31 (0, 0)) := by rw [hw6, Below.heap_setCell _ _ _ _ m4, Q5.out _ (by omega)]; exact R4.out
  have s6 : w6.ownsRow (w.heap.size + 1) 37 1 (.slice (some ⟨g2, 0, none⟩) o.words.length c2) o.words.length (wordVals (o.words.set i v)) := by rw [hw6, ← wordVals_set]; exact (S5.out.stored i _).1
  have q6 : ∀ q, q ≠ w.heap.size → q ≠ g2 → w6.heap[q]? = w4.heap[q]? := fun q h1 h2 => by rw [hw6, Below.heap_setCell _ _ _ _ h2, Q5.out q h1]
  have hz6 : w6.heap.size = w4.heap.size := by rw [hw6, ← hz5]; simp [World.setCell]
  have b6 : Below w.heap.size w w6 := by rw [hw6]; exact B5.out.setCell (by simp; omega) _
  have u0 := cellO e6 0
  have u1 := cellO e6 1
  have u2 := cellO e6 2
  have v0 := cellO r6 0
  have v1 := cellO r6 1
  have v2 := cellO r6 2
  have fz : ∀ i, w6.frozen? ⟨w.heap.size + 1, i, none⟩ = false := fun i => by unfold World.frozen?; rw [r6]; rfl
  have fz0 := fz 0
  have fz1 := fz 1
  have fz2 := fz 2
  simp at u0 u1 u2 v0 v1 v2
  have S6 := Lib.hid s6; have B6 := Lib.hid b6; have Q6 := Lib.hid q6; have R6 := Lib.hid r6
  clear s6 b6 q6 r6 e6 fz hw6 k6 f6 hc5 y1
  go_wp2_with fail
  obtain ⟨w7, hw7⟩ : ∃ w7, w7 = (((w6.setCell ⟨w.heap.size + 1, 0, none⟩ (.int .i64 cells)).setCell ⟨w.heap.size + 1, 1, none⟩ (.slice (some ⟨g, 0, none⟩) n cap4)).setCell ⟨w.heap.size + 1, 2, none⟩ (.int .u32 0)) := ⟨_, rfl⟩
  rw [← hw7]
  have r7 : w7.heap[w.heap.size + 1]? = some (.cells #[.int .i64 cells, .slice (some ⟨g, 0, none⟩) n cap4, .int .u32 0] 31 (0, 0)) := by
    rw [hw7, heap_setCell_same _ _ _ _ _ _ (heap_setCell_same _ _ _ _ _ _ (heap_setCell_same _ _ _ _ _ _ R6.out))]; rfl
  have q7 : ∀ q, q ≠ w.heap.size + 1 → w7.heap[q]? = w6.heap[q]? := fun q hq => by rw [hw7, Below.heap_setCell _ _ _ _ hq, Below.heap_setCell _ _ _ _ hq, Below.heap_setCell _ _ _ _ hq]
  have b7 : Below w.heap.size w w7 := by rw [hw7]; exact ((B6.out.setCell (by simp) _).setCell (by simp) _).setCell (by simp) _
  have s7 : w7.ownsRow (w.heap.size + 1) 37 1 (.slice (some ⟨g2, 0, none⟩) o.words.length c2) o.words.length (wordVals (o.words.set i v)) := (S6.out.kept (w' := w7) (row := some (w.heap.size + 1)) ⟨by rw [hw7]; rfl, by rw [hw7]; rfl, by rw [hw7]; rfl, by rw [hw7]; simp [World.setCell], fun q _ hq => q7 q (fun e => hq (by rw [e]))⟩ (Or.inr (by simp [Value.ownBlock]; omega)))
  have t0 := cellO r7 0
  have t1 := cellO r7 1
  have t2 := cellO r7 2
  simp at t0 t1 t2
  refine bodyPost_ret (v := .tuple #[.agg #[.int .i64 cells, .slice (some ⟨g, 0, none⟩) n cap4, .int .u32 0], .int .i64 0]) (by simp [results, Tryd.results20, go_sem, t0, t1, t2]) rfl ⟨_, rfl, ?_, b7⟩
  exact HOWN.out w7 (o.words.set i v) (fun q h1 h2 h3 => (q7 q (by omega)).trans (Q6.out q (by omega) h3)) (owns_up s7 hg2)
end Go.Proofs.YtobajnodckiohaaDoor
namespace Go.Proofs.YtobajnodckiohaaDoor
open Go.RowKit
set_option linter.unusedVariables false
theorem step_append_none {P : Program} {ops : Array Oper} {o : Oper} {a : Act} {w : World} {K : Act → World → Prop} {Q : Exit → Act → World → Prop} {E : Prop} (hgd : o.guard = none) (s x : Operand) (t : TypeId)
    (ho : o.op = .call { callee := .builtin .append, args := #[s, x], argTypes := #[t, t] })
    (base : Nat) (e : TypeId) (i : TypeInfo) (size : Nat) (ht : P.underlying t = some (.slice e)) (hi : P.info? e = some i)
    (v : Value) (n : Nat) (xs : List Value) (hs : a.eval s = v) (hown : w.ownsRow base e size v n xs) (hx : a.eval x = .slice none 0 0)
    (h : K (a.put o.dst v) w) : if Region.wanted o (yielded ops a.tmps) = true then Oper.wp P o a w K Q else E := by
  have hw : Region.wanted o (yielded ops a.tmps) = true := by simp [Region.wanted, hgd]
  rw [if_pos hw]
  have hrun := run_append_owned_none (P := P) (w := w) base t o.type e i size ht hi v n xs hown
  unfold Oper.wp
  simp [execOp, ho, resolve, invoke, builtin, hs, hx, hrun, Result.andThen]
  exact h
set_option maxRecDepth 100000 in
theorem rnew_yes (w : World) : Calls Tryd.prog 15 #[.int .i64 200] w fun e w' => e = .returned (.tuple #[.agg #[.int .i64 200, .slice none 0 0, .int .u32 0], .bool true]) ∧ Below w.heap.size w w' := by
  go_enter Tryd.func15, Tryd.ntmps15
  go_wp2_with fail
  refine bodyPost_ret (v := .tuple #[.agg #[.int .i64 200, .slice none 0 0, .int .u32 0], .bool true]) (by simp [results, Tryd.results15, go_sem]) rfl ⟨rfl, ?_⟩
  repeat (first | with_reducible exact Below.refl _ _ | ((with_reducible refine Below.setCell ?_ ?_ _); rotate_left; focus (first | (simp; done) | (simp; omega) | omega)) | ((with_reducible refine Below.alloc ?_ ?_ _); rotate_left; focus (first | (simp; done) | (simp; omega) | omega)) | (with_reducible refine Below.drew ?_))
theorem drewHeap (w : World) : w.drew.heap = w.heap := rfl
def newW (k : Int) : List Nat := if k = 2 then [] else [1, 1, 1]
def newB (k : Int) : List UInt8 := if k = 2 then [0, 0, 0] else []
set_option maxRecDepth 100000 in
set_option maxHeartbeats 1600000 in
theorem ralloc_yes (C : Nat) (cells : Int) (lv : Value) (os : List RO) (c : Nat) (k : Int) (w : World) (h : RObjs C w lv os) (hC : C ≤ w.heap.size) (hb : ∀ o, o ∈ os → o.at_ ≤ 1000000) (hz : checkZ c k 3 0 = 0) (hc : c < 18446744073709551616) (hn : os.length < 20) (hlv : os = [] → lv = .slice none 0 0) (hcells : cells = 200) (hfit : (cellsZ c k 3 0) + 2 ≤ cells - (usedR os : Int)) :
    Calls Tryd.prog 18 #[.agg #[.int .i64 cells, lv, .int .u32 0], .int .u64 (c : Int), .int .i64 k, .int .i64 3, .int .u64 1] w fun e w' => ∃ lv', e = .returned (.tuple #[.agg #[.int .i64 cells, lv', .int .u32 0], .int .u64 (usedR os * 2 : Int), .int .i64 0]) ∧ RObjs C w' lv' (os ++ [⟨usedR os, c, k, newW k, newB k⟩]) ∧ Below w.heap.size w w' := by
  obtain ⟨i0, hi0, hz0, hz1, hz2⟩ := info_parts objInfo
  obtain ⟨i1, hi1, hy0, hy1, hy2⟩ := info_parts wordInfo
  have PK := Lib.hid (fun W => rpack_yes (c : Int) k 3 0 false (by omega) (by omega) hz W)
  have CL := Lib.hid (fun W => rcells_any (c : Int) k 3 0 false (by omega) (by omega) W)
  have RU := Lib.hid (fun W (hW : Below w.heap.size w W) => rused_any C cells lv os W (h.later hW) hb)
  have hzz := checkZ_ok.1 hz
  have hcb := cellsZ_bd (c : Int) k 3 0
  obtain ⟨a, cap, xs, rfl, h1, h2, h3, h4, h5, h6⟩ := h
  have HR := Lib.hid h3; have HX := Lib.hid h4
  have hxl := h4.1
  clear h3 h4 hz hb
  generalize cellsZ (c : Int) k 3 0 = cr at *
  generalize packZ k 3 0 false = pk at *
  generalize usedR os = us at *
  subst hcells
  go_enter Tryd.func18, Tryd.ntmps18
  go_wp2_with fail
  obtain ⟨w3, hw3⟩ : ∃ w3, w3 = ((w.alloc (.cells #[.int .i64 200, .slice a os.length cap, .int .u32 0] 31)).alloc (.cells #[.int .i64 0, .slice none 0 0, .int .u32 0] 31)).alloc (.cells #[.int .u64 (c : Int), .int .i64 k, .int .i64 3, .int .u32 0, .bool false] 40) := ⟨_, rfl⟩
  rw [← hw3]
  have e3 : w3.heap[w.heap.size]? = some (.cells #[.int .i64 200, .slice a os.length cap, .int .u32 0] 31 (0, 0)) := by rw [hw3, Below.heap_alloc _ _ _ (by simp; omega), Below.heap_alloc _ _ _ (by simp)]; exact heap_alloc_new w _
  have r3 : w3.heap[w.heap.size + 1]? = some (.cells #[.int .i64 0, .slice none 0 0, .int .u32 0] 31 (0, 0)) := by
    have := heap_alloc_new (w.alloc (.cells #[.int .i64 200, .slice a os.length cap, .int .u32 0] 31)) (.cells #[.int .i64 0, .slice none 0 0, .int .u32 0] 31)
    rw [hw3, Below.heap_alloc _ _ _ (by simp)]; simpa using this
  have d3 : w3.heap[w.heap.size + 1 + 1]? = some (.cells #[.int .u64 (c : Int), .int .i64 k, .int .i64 3, .int .u32 0, .bool false] 40 (0, 0)) := by
    have := heap_alloc_new ((w.alloc (.cells #[.int .i64 200, .slice a os.length cap, .int .u32 0] 31)).alloc (.cells #[.int .i64 0, .slice none 0 0, .int .u32 0] 31)) (.cells #[.int .u64 (c : Int), .int .i64 k, .int .i64 3, .int .u32 0, .bool false] 40)
    rw [hw3]; simpa using this
  have b3 : Below w.heap.size w w3 := by rw [hw3]; exact (((Below.refl _ w).alloc (Nat.le_refl _) _).alloc (by simp) _).alloc (by simp; omega) _
  have hz3 : w3.heap.size = w.heap.size + 1 + 1 + 1 := by rw [hw3]; simp
  clear hw3
  refine (PK.out w3).mono ?_
  rintro e w4 ⟨rfl, hg4⟩
  have hz4 := hg4.size
  have d4 := (hg4.block (w.heap.size + 1 + 1) (by omega)).trans d3
  have x0 := cellO d4 0
  have x1 := cellO d4 1
  have x2 := cellO d4 2
  have x3 := cellO d4 3
  have x4 := cellO d4 4
  simp at x0 x1 x2 x3 x4
  have m4 : w.heap.size + 1 + 1 < w4.heap.size := by omega
  have G4 := Lib.hid hg4; have B3 := Lib.hid b3; have E3 := Lib.hid e3; have R3 := Lib.hid r3; have D3 := Lib.hid d3; have D4 := Lib.hid d4
  clear hg4 b3 e3 r3 d3 d4
  go_wp2_with fail
  obtain ⟨w5, hw5⟩ : ∃ w5, w5 = w4.alloc (.cells #[.int .u64 (c : Int), .int .u64 pk] 102) := ⟨_, rfl⟩
  rw [← hw5]
  have g5 : Below w3.heap.size w3 w5 := by rw [hw5]; exact G4.out.alloc G4.out.size _
  clear hw5
  refine (CL.out w5).mono ?_
  rintro e w6 ⟨rfl, hg6⟩
  have g6 := g5.trans (hg6.mono g5.size)
  have hz6 := g6.size
  have e6 := (g6.block w.heap.size (by omega)).trans E3.out
  have d6 := (g6.block (w.heap.size + 1 + 1) (by omega)).trans D3.out
  have x0 := cellO d6 0
  have x1 := cellO d6 1
  have x2 := cellO d6 2
  have x3 := cellO d6 3
  have x4 := cellO d6 4
  have y0 := cellO e6 0
  have y1 := cellO e6 1
  have y2 := cellO e6 2
  simp at x0 x1 x2 x3 x4 y0 y1 y2
  have m1 : w.heap.size < w6.heap.size := by omega
  have m2 : w.heap.size + 1 + 1 < w6.heap.size := by omega
  have G6 := Lib.hid g6; have B6 := Lib.hid (B3.out.trans (g6.mono B3.out.size)); have E6 := Lib.hid e6; have D6 := Lib.hid d6
  have RL := Lib.hid (fun W (hW : Below w6.heap.size w6 W) => RU.out W (B6.out.trans (hW.mono B6.out.size)))
  clear g5 hg6 g6 e6 d6
  go_upto_region 6 with fail
  (refine wp_region_later (by kernel_rfl) (by kernel_rfl) ?_; (repeat (go_big_quiet_step (((go_at_call 44; with_reducible exact calls_later_if RL.out))))); refine wpQuiet_nil ?_; intro w7 hw4; have hg := later_elim hw4; clear hw4)
  have g7 := G6.out.trans (hg.mono G6.out.size)
  have G7 := Lib.hid g7
  have d7 := (g7.block (w.heap.size + 1 + 1) (by omega)).trans D3.out
  have e7 := (g7.block w.heap.size (by omega)).trans E3.out
  have B7 := Lib.hid (B3.out.trans (g7.mono B3.out.size))
  have hz7 := hg.size
  clear g7 hg y0 y1 y2 x0 x1 x2 x3 x4 G6 B6 E6 D6
  have x0 := cellO d7 0
  have x1 := cellO d7 1
  have x2 := cellO d7 2
  have x3 := cellO d7 3
  have x4 := cellO d7 4
  have y0 := cellO e7 0
  have y1 := cellO e7 1
  have y2 := cellO e7 2
  simp at x0 x1 x2 x3 x4 y0 y1 y2
  have m1 : w.heap.size < w7.heap.size := by omega
  have m2 : w.heap.size + 1 + 1 < w7.heap.size := by omega
  have FX := Lib.hid (show ∀ W, Below w7.heap.size w7 W → W.cell? ⟨w.heap.size, 0, none⟩ = some (.int .i64 200) ∧ W.cell? ⟨w.heap.size, 1, none⟩ = some (.slice a os.length cap) ∧ W.cell? ⟨w.heap.size, 2, none⟩ = some (.int .u32 0) ∧ W.cell? ⟨w.heap.size + 1 + 1, 0, none⟩ = some (.int .u64 (c : Int)) ∧ W.cell? ⟨w.heap.size + 1 + 1, 1, none⟩ = some (.int .i64 k) ∧ W.cell? ⟨w.heap.size + 1 + 1, 2, none⟩ = some (.int .i64 3) ∧ W.cell? ⟨w.heap.size + 1 + 1, 3, none⟩ = some (.int .u32 0) ∧ W.cell? ⟨w.heap.size + 1 + 1, 4, none⟩ = some (.bool false) from fun W hh => ⟨(hh.cell (p := ⟨w.heap.size, 0, none⟩) m1).trans y0, (hh.cell (p := ⟨w.heap.size, 1, none⟩) m1).trans y1, (hh.cell (p := ⟨w.heap.size, 2, none⟩) m1).trans y2, (hh.cell (p := ⟨w.heap.size + 1 + 1, 0, none⟩) m2).trans x0, (hh.cell (p := ⟨w.heap.size + 1 + 1, 1, none⟩) m2).trans x1, (hh.cell (p := ⟨w.heap.size + 1 + 1, 2, none⟩) m2).trans x2, (hh.cell (p := ⟨w.heap.size + 1 + 1, 3, none⟩) m2).trans x3, (hh.cell (p := ⟨w.heap.size + 1 + 1, 4, none⟩) m2).trans x4⟩)
  have FZ := Lib.hid (show ∀ w8 : World, w8.heap[w7.heap.size]? = some (.cells #[.int .i64 0, .int .u64 0, .int .i64 0, .int .i64 0, .int .u32 0, .bool false, .slice none 0 0, .slice none 0 0] 43 (0, 0)) → w8.cell? ⟨w7.heap.size, 0, none⟩ = some (.int .i64 0) ∧ w8.cell? ⟨w7.heap.size, 1, none⟩ = some (.int .u64 0) ∧ w8.cell? ⟨w7.heap.size, 2, none⟩ = some (.int .i64 0) ∧ w8.cell? ⟨w7.heap.size, 3, none⟩ = some (.int .i64 0) ∧ w8.cell? ⟨w7.heap.size, 4, none⟩ = some (.int .u32 0) ∧ w8.cell? ⟨w7.heap.size, 5, none⟩ = some (.bool false) ∧ w8.cell? ⟨w7.heap.size, 6, none⟩ = some (.slice none 0 0) ∧ w8.cell? ⟨w7.heap.size, 7, none⟩ = some (.slice none 0 0) ∧ w8.frozen? ⟨w7.heap.size, 0, none⟩ = false ∧ w8.frozen? ⟨w7.heap.size, 1, none⟩ = false ∧ w8.frozen? ⟨w7.heap.size, 2, none⟩ = false ∧ w8.frozen? ⟨w7.heap.size, 3, none⟩ = false ∧ w8.frozen? ⟨w7.heap.size, 4, none⟩ = false ∧ w8.frozen? ⟨w7.heap.size, 5, none⟩ = false ∧ w8.frozen? ⟨w7.heap.size, 6, none⟩ = false ∧ w8.frozen? ⟨w7.heap.size, 7, none⟩ = false from fun w8 h => by
    refine ⟨?_, ?_, ?_, ?_, ?_, ?_, ?_, ?_, ?_, ?_, ?_, ?_, ?_, ?_, ?_, ?_⟩
    all_goals first
      | exact cellO h _
      | (unfold World.frozen?; rw [h]; rfl))
  have RLb := Lib.hid (show Calls Tryd.prog 44 #[.agg #[.int .i64 200, .slice a os.length cap, .int .u32 0]] w7.drew fun e w8 => e = .returned (.int .i64 (us : Int)) ∧ Below w7.heap.size w7 w8 ∧ (w8.cell? ⟨w.heap.size, 0, none⟩ = some (.int .i64 200) ∧ w8.cell? ⟨w.heap.size, 1, none⟩ = some (.slice a os.length cap) ∧ w8.cell? ⟨w.heap.size, 2, none⟩ = some (.int .u32 0) ∧ w8.cell? ⟨w.heap.size + 1 + 1, 0, none⟩ = some (.int .u64 (c : Int)) ∧ w8.cell? ⟨w.heap.size + 1 + 1, 1, none⟩ = some (.int .i64 k) ∧ w8.cell? ⟨w.heap.size + 1 + 1, 2, none⟩ = some (.int .i64 3) ∧ w8.cell? ⟨w.heap.size + 1 + 1, 3, none⟩ = some (.int .u32 0) ∧ w8.cell? ⟨w.heap.size + 1 + 1, 4, none⟩ = some (.bool false)) from (RU.out _ (B7.out.drew)).mono fun e w8 h => by
    have hh : Below w7.heap.size w7 w8 := (Below.refl _ w7).drew.trans h.2
    exact ⟨h.1, hh, FX.out w8 hh⟩)
  have RLa := Lib.hid (show Calls Tryd.prog 44 #[.agg #[.int .i64 200, .slice a os.length cap, .int .u32 0]] (w7.alloc (.cells #[.int .i64 0, .int .u64 0, .int .i64 0, .int .i64 0, .int .u32 0, .bool false, .slice none 0 0, .slice none 0 0] 43)).drew fun e w8 => e = .returned (.int .i64 (us : Int)) ∧ Below w7.heap.size w7 w8 ∧ (w8.cell? ⟨w.heap.size, 0, none⟩ = some (.int .i64 200) ∧ w8.cell? ⟨w.heap.size, 1, none⟩ = some (.slice a os.length cap) ∧ w8.cell? ⟨w.heap.size, 2, none⟩ = some (.int .u32 0) ∧ w8.cell? ⟨w.heap.size + 1 + 1, 0, none⟩ = some (.int .u64 (c : Int)) ∧ w8.cell? ⟨w.heap.size + 1 + 1, 1, none⟩ = some (.int .i64 k) ∧ w8.cell? ⟨w.heap.size + 1 + 1, 2, none⟩ = some (.int .i64 3) ∧ w8.cell? ⟨w.heap.size + 1 + 1, 3, none⟩ = some (.int .u32 0) ∧ w8.cell? ⟨w.heap.size + 1 + 1, 4, none⟩ = some (.bool false)) ∧ Hid (w8.heap[w7.heap.size]? = some (.cells #[.int .i64 0, .int .u64 0, .int .i64 0, .int .i64 0, .int .u32 0, .bool false, .slice none 0 0, .slice none 0 0] 43 (0, 0))) ∧ (w8.cell? ⟨w7.heap.size, 0, none⟩ = some (.int .i64 0) ∧ w8.cell? ⟨w7.heap.size, 1, none⟩ = some (.int .u64 0) ∧ w8.cell? ⟨w7.heap.size, 2, none⟩ = some (.int .i64 0) ∧ w8.cell? ⟨w7.heap.size, 3, none⟩ = some (.int .i64 0) ∧ w8.cell? ⟨w7.heap.size, 4, none⟩ = some (.int .u32 0) ∧ w8.cell? ⟨w7.heap.size, 5, none⟩ = some (.bool false) ∧ w8.cell? ⟨w7.heap.size, 6, none⟩ = some (.slice none 0 0) ∧ w8.cell? ⟨w7.heap.size, 7, none⟩ = some (.slice none 0 0) ∧ w8.frozen? ⟨w7.heap.size, 0, none⟩ = false ∧ w8.frozen? ⟨w7.heap.size, 1, none⟩ = false ∧ w8.frozen? ⟨w7.heap.size, 2, none⟩ = false ∧ w8.frozen? ⟨w7.heap.size, 3, none⟩ = false ∧ w8.frozen? ⟨w7.heap.size, 4, none⟩ = false ∧ w8.frozen? ⟨w7.heap.size, 5, none⟩ = false ∧ w8.frozen? ⟨w7.heap.size, 6, none⟩ = false ∧ w8.frozen? ⟨w7.heap.size, 7, none⟩ = false) from (RU.out _ ((B7.out.alloc B7.out.size _).drew)).mono fun e w8 h => by
    have hh : Below w7.heap.size w7 w8 := (((Below.refl _ w7).alloc (Nat.le_refl _) _).drew).trans (h.2.mono (by simp))
    have hq := (h.2.block w7.heap.size (by simp)).trans (heap_alloc_new w7 _)
    exact ⟨h.1, hh, FX.out w8 hh, Lib.hid hq, FZ.out w8 hq⟩)
  have D7 := Lib.hid d7; have E7 := Lib.hid e7
  clear d7 e7
  go_upto_region 8 with fail
  go_cut [17] from 43 to 46 (fun p wx => ∃ ob, p = .pointer (some ⟨ob, 0, none⟩) ∧ w7.heap.size ≤ ob ∧ Below w7.heap.size w7 wx ∧ wx.heap[ob]? = some (.cells #[.int .i64 (us : Int), .int .u64 (c : Int), .int .i64 k, .int .i64 3, .int .u32 0, .bool false, .slice none 0 0, .slice none 0 0] 43 (0, 0)))
  case first =>
    go_region_held3 (fun w' => w'.cell? ⟨w.heap.size, 0, none⟩ = some (.int .i64 200) ∧ w'.cell? ⟨w.heap.size, 1, none⟩ = some (.slice a os.length cap) ∧ w'.cell? ⟨w.heap.size, 2, none⟩ = some (.int .u32 0) ∧ w'.cell? ⟨w.heap.size + 1 + 1, 0, none⟩ = some (.int .u64 (c : Int)) ∧ w'.cell? ⟨w.heap.size + 1 + 1, 1, none⟩ = some (.int .i64 k) ∧ w'.cell? ⟨w.heap.size + 1 + 1, 2, none⟩ = some (.int .i64 3) ∧ w'.cell? ⟨w.heap.size + 1 + 1, 3, none⟩ = some (.int .u32 0) ∧ w'.cell? ⟨w.heap.size + 1 + 1, 4, none⟩ = some (.bool false))
      (first | (with_reducible exact ⟨z0, z1, z2, z3, z4, z5, z6, z7⟩) | (refine FX.out _ ?_; repeat (first | with_reducible exact Below.refl _ _ | ((with_reducible refine Below.setCell ?_ ?_ _); rotate_left; focus (first | (simp; done) | (simp; omega) | omega)) | ((with_reducible refine Below.alloc ?_ ?_ _); rotate_left; focus (first | (simp; done) | (simp; omega) | omega)) | (with_reducible refine Below.drew ?_) | ((with_reducible refine Below.trans ?_ (Below.mono hh8 ?_)); rotate_left; focus (first | (simp; done) | (simp; omega) | omega)))) | (refine FX.out _ ?_; repeat (first | with_reducible exact Below.refl _ _ | ((with_reducible refine Below.setCell ?_ ?_ _); rotate_left; focus (first | (simp; done) | (simp; omega) | omega)) | ((with_reducible refine Below.alloc ?_ ?_ _); rotate_left; focus (first | (simp; done) | (simp; omega) | omega)) | (with_reducible refine Below.drew ?_))))
      (first | (go_at_call 44; with_reducible (refine RLb.out.mono ?_); rintro e w8 ⟨rfl, hh8, z0, z1, z2, z3, z4, z5, z6, z7⟩; have hs8 := hh8.size) | (go_at_call 44; with_reducible (refine RLa.out.mono ?_); rintro e w8 ⟨rfl, hh8, ⟨z0, z1, z2, z3, z4, z5, z6, z7⟩, HQ, p0, p1, p2, p3, p4, p5, p6, p7, f0, f1, f2, f3, f4, f5, f6, f7⟩; have hs8 := hh8.size))
    all_goals (go_wp2_with fail)
    all_goals go_meet
    · exact ⟨w8.heap.size, rfl, hs8, hh8.alloc hs8 _, heap_alloc_new w8 _⟩
    · refine ⟨w7.heap.size, rfl, Nat.le_refl _, ?_, ?_⟩
      · repeat (first | with_reducible exact Below.refl _ _ | ((with_reducible refine Below.setCell ?_ ?_ _); rotate_left; focus (first | (simp; done) | (simp; omega) | omega)) | ((with_reducible refine Below.alloc ?_ ?_ _); rotate_left; focus (first | (simp; done) | (simp; omega) | omega)) | (with_reducible refine Below.drew ?_) | ((with_reducible refine Below.trans ?_ (Below.mono hh8 ?_)); rotate_left; focus (first | (simp; done) | (simp; omega) | omega)))
      · rw [heap_setCell_same _ _ _ _ _ _ (heap_setCell_same _ _ _ _ _ _ (heap_setCell_same _ _ _ _ _ _ (heap_setCell_same _ _ _ _ _ _ (heap_setCell_same _ _ _ _ _ _ (heap_setCell_same _ _ _ _ _ _ (heap_setCell_same _ _ _ _ _ _ (heap_setCell_same _ _ _ _ _ _ HQ.out)))))))]
        rfl
  case rest =>
    obtain ⟨ob, rfl, hob, hg8, ho8⟩ := hcut
    obtain ⟨w8, hw8⟩ : ∃ w8, w8 = wc := ⟨_, rfl⟩
    rw [← hw8] at hg8 ho8 ⊢
    clear hw8 x0 x1 x2 x3 x4 y0 y1 y2 RLa RLb FX FZ
    have hob8 : ob < w8.heap.size := (Array.getElem?_eq_some_iff.1 ho8).1
    have G8 := Lib.hid hg8; have O8 := Lib.hid ho8
    clear hg8 ho8
    go_upto_if 48 with fail
    go_cut [18, 48] from 49 to 62 (fun s18 s48 wx => ∃ wa wn wc ba bn bc, wx.heap[ob]? = some (.cells #[.int .i64 (us : Int), .int .u64 (c : Int), .int .i64 k, .int .i64 3, .int .u32 0, .bool false, .slice wa wn wc, .slice ba bn bc] 43 (0, 0)) ∧ WordsAt wx (.slice wa wn wc) (newW k) ∧ BytesAt wx (.slice ba bn bc) (newB k) ∧ Up (ob + 1) (.slice wa wn wc) ∧ Up (ob + 1) (.slice ba bn bc) ∧ Below ob w8 wx)
    case first =>
      by_cases hk2 : k = 2
      · subst hk2
        have o8 := O8.out
        have v7 := cellO o8 7
        have f7 : w8.frozen? ⟨ob, 7, none⟩ = false := by unfold World.frozen?; rw [o8]; rfl
        simp at v7
        clear o8
        have hmk : ∀ W, (Instr.makeSlice 41 (.int .i64 3) (.int .i64 3)).run Tryd.prog W = .ok (.slice (some ⟨W.heap.size, 0, none⟩) 3 3) (W.alloc (.cells (madeCells #[.int .u8 0] 3) 5)) :=
          fun W => run_make_row' (P := Tryd.prog) 41 5 (.int .u8 0) 1 Tryd.underlying41 byteInfo rfl .i64 .i64 3 (by omega) (by omega) W
        go_wp2_with fail
        go_meet
        obtain ⟨w9, hw9⟩ : ∃ w9, w9 = w8.setCell ⟨ob, 7, none⟩ (.slice (some ⟨w8.heap.size, 0, none⟩) 3 3) := ⟨_, rfl⟩
        rw [← hw9]
        have hz9 : w9.heap.size = w8.heap.size := by rw [hw9]; simp [World.setCell]
        have hrow := World.rowIs_made w9 (.int .u8 0) 3 5
        have o9 : (w9.alloc (.cells (madeCells #[.int .u8 0] 3) 5)).heap[ob]? = some (.cells #[.int .i64 (us : Int), .int .u64 (c : Int), .int .i64 2, .int .i64 3, .int .u32 0, .bool false, .slice none 0 0, .slice (some ⟨w8.heap.size, 0, none⟩) 3 3] 43 (0, 0)) := by rw [Below.heap_alloc _ _ _ (by omega), hw9]; exact heap_setCell_same _ _ _ _ _ _ O8.out
        have b9 : Below ob w8 w9 := by rw [hw9]; exact (Below.refl _ _).setCell (by simp) _
        clear hw9
        rw [hz9] at hrow
        refine ⟨none, 0, 0, some ⟨w8.heap.size, 0, none⟩, 3, 3, o9, words_none _, ?_, up_none _ 0 0, up_some (by omega), b9.alloc (by omega) _⟩
        refine ⟨_, _, rfl, by decide, by unfold maxLen; omega, Or.inr ⟨w8.heap.size, 0, rfl, fun j hj => ?_⟩, fun h => by simp at h⟩
        simp [Lib.byteCells, newB] at hj
        rw [Nat.zero_add, hrow.cell hj]
        match j, hj with
        | 0, _ => rfl
        | 1, _ => rfl
        | 2, _ => rfl
      · have hkb : (k == 2) = false := by simpa using hk2
        rw [hkb]
        clear hkb
        go_wp2_with fail
        go_loopg [18] 3 (fun gg s18 wr => ∃ (j : Nat) (wa : Option Addr) (wn wc : Nat), gg = 3 - j ∧ j ≤ 3 ∧ s18 = .int .i64 (j : Int) ∧ wr.heap[ob]? = some (.cells #[.int .i64 (us : Int), .int .u64 (c : Int), .int .i64 k, .int .i64 3, .int .u32 0, .bool false, .slice wa wn wc, .slice none 0 0] 43 (0, 0)) ∧ wr.ownsRow (ob + 1) 37 1 (.slice wa wn wc) j (wordVals (List.replicate j 1)) ∧ Below ob w8 wr)
        case atStart => exact ⟨0, none, 0, 0, rfl, by omega, rfl, O8.out, World.ownsRow_nil _ _ _ _, Below.refl _ _⟩
        case round =>
          obtain ⟨j, wa, wn, wc, hgj, hj, rfl, hor, how, hgr⟩ := hrel
          have HGJ := Lib.hid hgj; have HOW := Lib.hid how; have HGR := Lib.hid hgr
          have hzr := hgr.size
          clear hgj
          by_cases hj3 : j < 3
          · have v6 := cellO hor 6
            have f6 : wr.frozen? ⟨ob, 6, none⟩ = false := by unfold World.frozen?; rw [hor]; rfl
            simp at v6
            have HOR := Lib.hid hor
            clear hor how hgr
            go_wp2_with (at_builtin; refine wpList_append_own _ rfl _ _ 23 rfl (ob + 1) 37 i1 (.int .u64 0) 1 8 Tryd.underlying23 hi1 hy0 hy1 hy2 rfl (by decide) _ _ _ rfl (HOW.out.alloc _) ⟨wr.heap.size, 0, none⟩ 1 1 [.int .u64 1] rfl rfl ?c1 ?c2 ?c3 ?c4 ?c5 ?_)
            case c1 =>
              intro j u hj
              match j, hj with
              | 0, hj => simp at hj; subst hj; simp [Addr.add]
            case c2 => intro u hu; simp at hu; subst hu; rfl
            case c3 => unfold maxLen; omega
            case c4 => omega
            case c5 => simp; omega
            intro v' w9 hown' hgrow _
            obtain ⟨a9, n9, c9, rfl⟩ : ∃ a9 n9 c9, v' = .slice a9 n9 c9 := by
              obtain ⟨-, ⟨rfl, -⟩ | ⟨g, cap, cur, rfl, -⟩⟩ := hown'
              · exact ⟨_, _, _, rfl⟩
              · exact ⟨_, _, _, rfl⟩
            have o9 : w9.heap[ob]? = _ := ((hgrow.block ob (by simp; omega) (fun e => by have := (HOW.out.lt ob e.symm).1; omega)).trans (Below.heap_alloc _ _ _ (by omega))).trans HOR.out
            have ho9 : w9.ownsRow (ob + 1) 37 1 (.slice a9 n9 c9) (j + 1) (wordVals (List.replicate (j + 1) 1)) := by
              rw [show wordVals (List.replicate (j + 1) 1) = wordVals (List.replicate j 1) ++ [.int .u64 1] by rw [List.replicate_succ']; simp [wordVals]]
              exact hown'
            have b9 : Below ob w8 w9 := (HGR.out.alloc (by omega) _).grown hgrow (by simp; omega) (fun q hq => by have := (HOW.out.lt q hq).1; omega)
            have v9 := cellO o9 6
            have f9 : w9.frozen? ⟨ob, 6, none⟩ = false := by unfold World.frozen?; rw [o9]; rfl
            simp at v9
            have O9 := Lib.hid o9; have HO9 := Lib.hid ho9; have B9 := Lib.hid b9
            clear hown' hgrow o9 ho9 b9 f6 v6
            go_wp2_with fail
            go_roundg (3 - (j + 1))
            case measure => rw [HGJ.out]; omega
            case rel => exact ⟨j + 1, a9, n9, c9, rfl, by omega, by go_num, heap_setCell_same _ _ _ _ _ _ O9.out, ownsRow_setCell_below HO9.out (by simp) _, B9.out.setCell (by simp) _⟩
          · obtain rfl : j = 3 := by omega
            have HOR := Lib.hid hor
            clear hor how hgr
            go_wp2_with fail
            go_meet
            refine ⟨wa, wn, wc, none, 0, 0, HOR.out, ?_, ?_, up_owns HOW.out (by omega), up_none _ 0 0, HGR.out⟩
            · have e : newW k = List.replicate 3 1 := by unfold newW; rw [if_neg hk2]; rfl
              rw [e]
              exact words_of_owns HOW.out
            · have e : newB k = [] := by unfold newB; rw [if_neg hk2]
              rw [e]
              exact ⟨none, 0, rfl, Nat.le_refl _, by unfold maxLen; omega, Or.inl rfl, fun _ => rfl⟩
    case rest =>
      obtain ⟨wa, wn, wc1, ba, bn, bc, ho9, hw9, hb9, hu1, hu2, hg9⟩ := hcut
      obtain ⟨w9, hw9e⟩ : ∃ w9, w9 = wc := ⟨_, rfl⟩
      rw [← hw9e] at ho9 hw9 hb9 hg9 ⊢
      clear hw9e
      have hs9 := hg9.size
      have mo : ob < w9.heap.size := by omega
      have mh : w.heap.size < w9.heap.size := by omega
      have g8 := G8.out.size
      have e9 := (hg9.block w.heap.size (by omega)).trans ((G8.out.block w.heap.size (by omega)).trans E7.out)
      have r9 := (hg9.block (w.heap.size + 1) (by omega)).trans ((G8.out.block (w.heap.size + 1) (by omega)).trans ((G7.out.block (w.heap.size + 1) (by omega)).trans R3.out))
      have B9 : Below w.heap.size w w9 := B7.out.trans ((G8.out.mono (by omega)).trans (hg9.mono (by omega)))
      have b1_ := cellO ho9 0; have b2_ := cellO ho9 1; have b3_ := cellO ho9 2; have b4_ := cellO ho9 3; have b5_ := cellO ho9 4; have b6_ := cellO ho9 5; have b7_ := cellO ho9 6; have b8_ := cellO ho9 7
      have y1 := cellO e9 1
      have fy : w9.frozen? ⟨w.heap.size, 1, none⟩ = false := by unfold World.frozen?; rw [e9]; rfl
      simp at b1_ b2_ b3_ b4_ b5_ b6_ b7_ b8_ y1
      have FX := Lib.hid (show ∀ W, Below w9.heap.size w9 W → W.cell? ⟨ob, 0, none⟩ = some (Value.int .i64 (us : Int)) ∧ W.cell? ⟨ob, 1, none⟩ = some (.int .u64 (c : Int)) ∧ W.cell? ⟨ob, 2, none⟩ = some (.int .i64 k) ∧ W.cell? ⟨ob, 3, none⟩ = some (.int .i64 3) ∧ W.cell? ⟨ob, 4, none⟩ = some (.int .u32 0) ∧ W.cell? ⟨ob, 5, none⟩ = some (.bool false) ∧ W.cell? ⟨ob, 6, none⟩ = some (.slice wa wn wc1) ∧ W.cell? ⟨ob, 7, none⟩ = some (.slice ba bn bc) ∧ W.cell? ⟨w.heap.size, 1, none⟩ = some (.slice a os.length cap) ∧ W.frozen? ⟨w.heap.size, 1, none⟩ = false from fun W hh => ⟨(hh.cell (p := ⟨ob, 0, none⟩) mo).trans b1_, (hh.cell (p := ⟨ob, 1, none⟩) mo).trans b2_, (hh.cell (p := ⟨ob, 2, none⟩) mo).trans b3_, (hh.cell (p := ⟨ob, 3, none⟩) mo).trans b4_, (hh.cell (p := ⟨ob, 4, none⟩) mo).trans b5_, (hh.cell (p := ⟨ob, 5, none⟩) mo).trans b6_, (hh.cell (p := ⟨ob, 6, none⟩) mo).trans b7_, (hh.cell (p := ⟨ob, 7, none⟩) mo).trans b8_, (hh.cell (p := ⟨w.heap.size, 1, none⟩) mh).trans y1, (hh.frozen (p := ⟨w.heap.size, 1, none⟩) mh).trans fy⟩)
      have HO1 := Lib.hid (show (w9.alloc (.cells #[] 43)).ownsRow w9.heap.size 43 8 (.slice (some ⟨w9.heap.size, 0, none⟩) 0 0) 0 [] from World.ownsRow_lit w9 #[] 0 (Nat.le_refl _) (by decide) rfl)
      have HO2 := Lib.hid (show ((w9.alloc (.cells #[] 43)).alloc (.cells #[.int .i64 (us : Int), .int .u64 (c : Int), .int .i64 k, .int .i64 3, .int .u32 0, .bool false, .slice wa wn wc1, .slice ba bn bc] 43)).ownsRow w9.heap.size 43 8 (.slice (some ⟨w9.heap.size, 0, none⟩) 0 0) 0 [] from HO1.out.alloc _)
      have HO3 := Lib.hid (show ((w9.alloc (.cells #[.int .i64 (us : Int), .int .u64 (c : Int), .int .i64 k, .int .i64 3, .int .u32 0, .bool false, .slice wa wn wc1, .slice ba bn bc] 43)).alloc (.cells #[] 43)).ownsRow w9.heap.size 43 8 (.slice (some ⟨w9.heap.size + 1, 0, none⟩) 0 0) 0 [] from by
        have := World.ownsRow_lit (base := w9.heap.size) (size := 8) (e := 43) (w9.alloc (.cells #[.int .i64 (us : Int), .int .u64 (c : Int), .int .i64 k, .int .i64 3, .int .u32 0, .bool false, .slice wa wn wc1, .slice ba bn bc] 43)) #[] 0 (by simp) (by decide) rfl
        simpa using this)
      have HXa := Lib.hid (show ((w9.alloc (.cells #[] 43)).alloc (.cells #[.int .i64 (us : Int), .int .u64 (c : Int), .int .i64 k, .int .i64 3, .int .u32 0, .bool false, .slice wa wn wc1, .slice ba bn bc] 43)).heap[w9.heap.size + 1]? = some (.cells #[.int .i64 (us : Int), .int .u64 (c : Int), .int .i64 k, .int .i64 3, .int .u32 0, .bool false, .slice wa wn wc1, .slice ba bn bc] 43 (0, 0)) from by
        have := heap_alloc_new (w9.alloc (.cells #[] 43)) (.cells #[.int .i64 (us : Int), .int .u64 (c : Int), .int .i64 k, .int .i64 3, .int .u32 0, .bool false, .slice wa wn wc1, .slice ba bn bc] 43)
        simpa using this)
      have HXb := Lib.hid (show ((w9.alloc (.cells #[.int .i64 (us : Int), .int .u64 (c : Int), .int .i64 k, .int .i64 3, .int .u32 0, .bool false, .slice wa wn wc1, .slice ba bn bc] 43)).alloc (.cells #[] 43)).heap[w9.heap.size]? = some (.cells #[.int .i64 (us : Int), .int .u64 (c : Int), .int .i64 k, .int .i64 3, .int .u32 0, .bool false, .slice wa wn wc1, .slice ba bn bc] 43 (0, 0)) from by
        rw [Below.heap_alloc _ _ _ (by simp)]
        exact heap_alloc_new w9 (.cells #[.int .i64 (us : Int), .int .u64 (c : Int), .int .i64 k, .int .i64 3, .int .u32 0, .bool false, .slice wa wn wc1, .slice ba bn bc] 43))
      have HV := Lib.hid (show ∀ u ∈ ([.int .i64 (us : Int), .int .u64 (c : Int), .int .i64 k, .int .i64 3, .int .u32 0, .bool false, .slice wa wn wc1, .slice ba bn bc] : List Value), u.oneCell' = true from by
        intro u hu
        simp at hu
        rcases hu with rfl | rfl | rfl | rfl | rfl | rfl | rfl | rfl <;> rfl)
      have HW9 := Lib.hid hw9; have HB9 := Lib.hid hb9; have U1 := Lib.hid hu1; have U2 := Lib.hid hu2; have GB9 := Lib.hid B9; have R9 := Lib.hid r9; have E9 := Lib.hid e9; have HO9 := Lib.hid ho9; have G9 := Lib.hid hg9
      clear hw9 hb9 hu1 hu2 B9 r9 e9 ho9 hg9
      have n1 : w9.heap.size ≠ w.heap.size := by omega
      have n2 : w9.heap.size ≠ ob := by omega
      unfold maxLen at h2
      go_upto_region 15 with fail
      go_cut [] from 63 to 70 (fun wx => ∃ (g4 c4 : Nat) (w4 : World), Below w9.heap.size w9 w4 ∧ w4.ownsRow w9.heap.size 43 8 (.slice (some ⟨g4, 0, none⟩) (os.length + 1) c4) (os.length + 1) (xs ++ ([.int .i64 (us : Int), .int .u64 (c : Int), .int .i64 k, .int .i64 3, .int .u32 0, .bool false, .slice wa wn wc1, .slice ba bn bc] : List Value)) ∧ wx = w4.setCell ⟨w.heap.size, 1, none⟩ (.slice (some ⟨g4, 0, none⟩) (os.length + 1) c4))
      case first =>
        rcases Nat.eq_zero_or_pos os.length with hol | hol
        · obtain rfl : os = [] := List.length_eq_zero_iff.1 hol
          obtain rfl : xs = [] := List.length_eq_zero_iff.1 (by simpa using hxl)
          have hv0 := hlv rfl
          simp only [Value.slice.injEq, List.length_nil] at hv0
          obtain ⟨rfl, -, rfl⟩ := hv0
          clear hlv
          go_region_law
            (first | (refine step_append_none rfl _ _ _ rfl w9.heap.size 43 i0 8 Tryd.underlying28 hi0 (.slice (some ⟨w9.heap.size, 0, none⟩) 0 0) 0 [] rfl HO1.out rfl ?_) | (refine step_append_none rfl _ _ _ rfl w9.heap.size 43 i0 8 Tryd.underlying28 hi0 (.slice (some ⟨w9.heap.size, 0, none⟩) 0 0) 0 [] rfl HO2.out rfl ?_) | (refine step_append_none rfl _ _ _ rfl w9.heap.size 43 i0 8 Tryd.underlying28 hi0 (.slice (some ⟨w9.heap.size + 1, 0, none⟩) 0 0) 0 [] rfl HO3.out rfl ?_) | (refine step_append_lies _ rfl _ _ _ rfl w9.heap.size 43 i0 _ 8 88 Tryd.underlying28 hi0 hz0 hz1 hz2 rfl (by omega) (.slice (some ⟨w9.heap.size, 0, none⟩) 0 0) 0 [] rfl HO2.out ⟨w9.heap.size + 1, 0, none⟩ 1 1 ([.int .i64 (us : Int), .int .u64 (c : Int), .int .i64 k, .int .i64 3, .int .u32 0, .bool false, .slice wa wn wc1, .slice ba bn bc] : List Value) rfl rfl (World.news_of_block (HXa.out)) HV.out (by omega) (by unfold maxLen; omega) (by omega) (by simp <;> omega) (w9.heap.size + 1 + 1) (by simp) ?_; intro g4 c4 w4 hown4 hgrow4 hat4 hlt4; rw [Nat.zero_add, List.nil_append] at hown4; rw [Nat.zero_add]; have hb4 : Below w9.heap.size w9 w4 := (((Below.refl _ w9).alloc (Nat.le_refl _) (.cells #[] 43)).alloc (by simp) (.cells #[.int .i64 (us : Int), .int .u64 (c : Int), .int .i64 k, .int .i64 3, .int .u32 0, .bool false, .slice wa wn wc1, .slice ba bn bc] 43)).drew.grown hgrow4 (by simp <;> omega) (fun p hp => by simp [Value.ownBlock] at hp <;> omega); obtain ⟨q0, q1, q2, q3, q4, q5, q6, q7, qy, qf⟩ := FX.out w4 hb4; have HO4 := Lib.hid hown4; have HB4 := Lib.hid hb4) | (refine step_append_lies _ rfl _ _ _ rfl w9.heap.size 43 i0 _ 8 88 Tryd.underlying28 hi0 hz0 hz1 hz2 rfl (by omega) (.slice (some ⟨w9.heap.size + 1, 0, none⟩) 0 0) 0 [] rfl HO3.out ⟨w9.heap.size, 0, none⟩ 1 1 ([.int .i64 (us : Int), .int .u64 (c : Int), .int .i64 k, .int .i64 3, .int .u32 0, .bool false, .slice wa wn wc1, .slice ba bn bc] : List Value) rfl rfl (World.news_of_block (HXb.out)) HV.out (by omega) (by unfold maxLen; omega) (by omega) (by simp <;> omega) (w9.heap.size + 1 + 1) (by simp) ?_; intro g4 c4 w4 hown4 hgrow4 hat4 hlt4; rw [Nat.zero_add, List.nil_append] at hown4; rw [Nat.zero_add]; have hb4 : Below w9.heap.size w9 w4 := (((Below.refl _ w9).alloc (Nat.le_refl _) (.cells #[.int .i64 (us : Int), .int .u64 (c : Int), .int .i64 k, .int .i64 3, .int .u32 0, .bool false, .slice wa wn wc1, .slice ba bn bc] 43)).alloc (by simp) (.cells #[] 43)).drew.grown hgrow4 (by simp <;> omega) (fun p hp => by simp [Value.ownBlock] at hp <;> omega); obtain ⟨q0, q1, q2, q3, q4, q5, q6, q7, qy, qf⟩ := FX.out w4 hb4; have HO4 := Lib.hid hown4; have HB4 := Lib.hid hb4))
          all_goals (go_wp2_with fail)
          all_goals go_meet
          all_goals exact ⟨_, _, _, HB4.out, HO4.out, rfl⟩
        · obtain ⟨b, q, rfl, hc⟩ : ∃ b q, a = some ⟨b, q, none⟩ ∧ ∀ j, j < xs.length → w.cell? ⟨b, q + j, none⟩ = xs[j]? := by
            rcases HR.out with hr | hr
            · rw [hr] at hxl; simp at hxl; omega
            · exact hr
          have HR := Lib.hid (show ∀ W, Below w9.heap.size w9 W → ∀ j u, xs[j]? = some u → W.cell? ((⟨b, q, none⟩ : Addr).add j) = some u from fun W hW => RowAt.add (RowAt.later (RowAt.later (Or.inr ⟨b, q, rfl, hc⟩) GB9.out) hW))
          have HN := Lib.hid HX.out.ones
          clear hc
          go_region_law
            (first | (refine step_append_lies _ (by rfl) _ _ _ (by rfl) w9.heap.size 43 i0 _ 8 88 Tryd.underlying28 hi0 hz0 hz1 hz2 rfl (by omega) (.slice (some ⟨w9.heap.size, 0, none⟩) 0 0) 0 [] (by rfl) HO1.out ⟨b, q, none⟩ os.length cap xs (by rfl) (by omega) (HR.out _ ((Below.refl _ w9).alloc (Nat.le_refl _) (.cells #[] 43)).drew) HN.out (by omega) (by unfold maxLen; omega) (by omega) (by simp <;> omega) (w9.heap.size + 1) (by simp) ?_; intro g3 c3 w3 hown3 hgrow3 hat3 hlt3; rw [Nat.zero_add, List.nil_append] at hown3; rw [Nat.zero_add]; have hb3 : Below w9.heap.size w9 w3 := ((Below.refl _ w9).alloc (Nat.le_refl _) (.cells #[] 43)).drew.grown hgrow3 (by simp <;> omega) (fun p hp => by simp [Value.ownBlock] at hp <;> omega); obtain ⟨z0, z1, z2, z3, z4, z5, z6, z7, zy, zf⟩ := FX.out w3 hb3; have hs3 := hb3.size; have ml3 : w.heap.size < w3.heap.size := (by omega); have mo3 : ob < w3.heap.size := (by omega); have hg3 := hown3.lt g3 rfl; have HO3_ := Lib.hid hown3; have HB3 := Lib.hid hb3; skip) | (refine step_append_lies _ (by rfl) _ _ _ (by rfl) w9.heap.size 43 i0 _ 8 88 Tryd.underlying28 hi0 hz0 hz1 hz2 rfl (by omega) (.slice (some ⟨w9.heap.size, 0, none⟩) 0 0) 0 [] (by rfl) HO2.out ⟨b, q, none⟩ os.length cap xs (by rfl) (by omega) (HR.out _ (((Below.refl _ w9).alloc (Nat.le_refl _) (.cells #[] 43)).alloc (by simp) (.cells #[.int .i64 (us : Int), .int .u64 (c : Int), .int .i64 k, .int .i64 3, .int .u32 0, .bool false, .slice wa wn wc1, .slice ba bn bc] 43)).drew) HN.out (by omega) (by unfold maxLen; omega) (by omega) (by simp <;> omega) (w9.heap.size + 1 + 1) (by simp) ?_; intro g3 c3 w3 hown3 hgrow3 hat3 hlt3; rw [Nat.zero_add, List.nil_append] at hown3; rw [Nat.zero_add]; have hb3 : Below w9.heap.size w9 w3 := (((Below.refl _ w9).alloc (Nat.le_refl _) (.cells #[] 43)).alloc (by simp) (.cells #[.int .i64 (us : Int), .int .u64 (c : Int), .int .i64 k, .int .i64 3, .int .u32 0, .bool false, .slice wa wn wc1, .slice ba bn bc] 43)).drew.grown hgrow3 (by simp <;> omega) (fun p hp => by simp [Value.ownBlock] at hp <;> omega); obtain ⟨z0, z1, z2, z3, z4, z5, z6, z7, zy, zf⟩ := FX.out w3 hb3; have hs3 := hb3.size; have ml3 : w.heap.size < w3.heap.size := (by omega); have mo3 : ob < w3.heap.size := (by omega); have hg3 := hown3.lt g3 rfl; have HO3_ := Lib.hid hown3; have HB3 := Lib.hid hb3; have hx3 := (hgrow3.block (w9.heap.size + 1) (by simp) (by simp [Value.ownBlock])).trans HXa.out; have HX3 := Lib.hid hx3; clear hx3) | (refine step_append_lies _ (by rfl) _ _ _ (by rfl) w9.heap.size 43 i0 _ 8 88 Tryd.underlying28 hi0 hz0 hz1 hz2 rfl (by omega) (.slice (some ⟨w9.heap.size + 1, 0, none⟩) 0 0) 0 [] (by rfl) HO3.out ⟨b, q, none⟩ os.length cap xs (by rfl) (by omega) (HR.out _ (((Below.refl _ w9).alloc (Nat.le_refl _) (.cells #[.int .i64 (us : Int), .int .u64 (c : Int), .int .i64 k, .int .i64 3, .int .u32 0, .bool false, .slice wa wn wc1, .slice ba bn bc] 43)).alloc (by simp) (.cells #[] 43)).drew) HN.out (by omega) (by unfold maxLen; omega) (by omega) (by simp <;> omega) (w9.heap.size + 1 + 1) (by simp) ?_; intro g3 c3 w3 hown3 hgrow3 hat3 hlt3; rw [Nat.zero_add, List.nil_append] at hown3; rw [Nat.zero_add]; have hb3 : Below w9.heap.size w9 w3 := (((Below.refl _ w9).alloc (Nat.le_refl _) (.cells #[.int .i64 (us : Int), .int .u64 (c : Int), .int .i64 k, .int .i64 3, .int .u32 0, .bool false, .slice wa wn wc1, .slice ba bn bc] 43)).alloc (by simp) (.cells #[] 43)).drew.grown hgrow3 (by simp <;> omega) (fun p hp => by simp [Value.ownBlock] at hp <;> omega); obtain ⟨z0, z1, z2, z3, z4, z5, z6, z7, zy, zf⟩ := FX.out w3 hb3; have hs3 := hb3.size; have ml3 : w.heap.size < w3.heap.size := (by omega); have mo3 : ob < w3.heap.size := (by omega); have hg3 := hown3.lt g3 rfl; have HO3_ := Lib.hid hown3; have HB3 := Lib.hid hb3; have hx3 := (hgrow3.block w9.heap.size (by simp <;> omega) (by simp [Value.ownBlock])).trans HXb.out; have HX4 := Lib.hid hx3; clear hx3) | (refine step_append_lies _ (by rfl) _ _ _ (by rfl) w9.heap.size 43 i0 _ 8 88 Tryd.underlying28 hi0 hz0 hz1 hz2 rfl (by omega) (.slice (some ⟨g3, 0, none⟩) os.length c3) os.length xs (by rfl) (HO3_.out.alloc _) ⟨w3.heap.size, 0, none⟩ 1 1 ([.int .i64 (us : Int), .int .u64 (c : Int), .int .i64 k, .int .i64 3, .int .u32 0, .bool false, .slice wa wn wc1, .slice ba bn bc] : List Value) (by rfl) (by rfl) (World.news_of_block (heap_alloc_new w3 _)) HV.out (by omega) (by unfold maxLen; omega) (by omega) (by simp; omega) (w3.heap.size + 1) (by simp) ?_; intro g4 c4 w4 hown4 hgrow4 hat4 hlt4; have hb4 : Below w9.heap.size w9 w4 := (HB3.out.alloc (by omega) _).grown hgrow4 (by simp; omega) (fun p hp => by simp [Value.ownBlock] at hp <;> omega); obtain ⟨q0, q1, q2, q3, q4, q5, q6, q7, qy, qf⟩ := FX.out w4 hb4; have HO4 := Lib.hid hown4; have HB4 := Lib.hid hb4) | (refine step_append_lies _ (by rfl) _ _ _ (by rfl) w9.heap.size 43 i0 _ 8 88 Tryd.underlying28 hi0 hz0 hz1 hz2 rfl (by omega) (.slice (some ⟨g3, 0, none⟩) os.length c3) os.length xs (by rfl) HO3_.out ⟨w9.heap.size + 1, 0, none⟩ 1 1 ([.int .i64 (us : Int), .int .u64 (c : Int), .int .i64 k, .int .i64 3, .int .u32 0, .bool false, .slice wa wn wc1, .slice ba bn bc] : List Value) (by rfl) (by rfl) (World.news_of_block (HX3.out)) HV.out (by omega) (by unfold maxLen; omega) (by omega) (by omega) (w3.heap.size) (by simp) ?_; intro g4 c4 w4 hown4 hgrow4 hat4 hlt4; have hb4 : Below w9.heap.size w9 w4 := (HB3.out).grown hgrow4 (by omega) (fun p hp => by simp [Value.ownBlock] at hp <;> omega); obtain ⟨q0, q1, q2, q3, q4, q5, q6, q7, qy, qf⟩ := FX.out w4 hb4; have HO4 := Lib.hid hown4; have HB4 := Lib.hid hb4) | (refine step_append_lies _ (by rfl) _ _ _ (by rfl) w9.heap.size 43 i0 _ 8 88 Tryd.underlying28 hi0 hz0 hz1 hz2 rfl (by omega) (.slice (some ⟨g3, 0, none⟩) os.length c3) os.length xs (by rfl) HO3_.out ⟨w9.heap.size, 0, none⟩ 1 1 ([.int .i64 (us : Int), .int .u64 (c : Int), .int .i64 k, .int .i64 3, .int .u32 0, .bool false, .slice wa wn wc1, .slice ba bn bc] : List Value) (by rfl) (by rfl) (World.news_of_block (HX4.out)) HV.out (by omega) (by unfold maxLen; omega) (by omega) (by omega) (w3.heap.size) (by simp) ?_; intro g4 c4 w4 hown4 hgrow4 hat4 hlt4; have hb4 : Below w9.heap.size w9 w4 := (HB3.out).grown hgrow4 (by omega) (fun p hp => by simp [Value.ownBlock] at hp <;> omega); obtain ⟨q0, q1, q2, q3, q4, q5, q6, q7, qy, qf⟩ := FX.out w4 hb4; have HO4 := Lib.hid hown4; have HB4 := Lib.hid hb4))
          all_goals (go_wp2_with fail)
          all_goals go_meet
          all_goals exact ⟨_, _, _, HB4.out, HO4.out, rfl⟩
      case rest =>
        obtain ⟨g4, c4, wA, bA, oA, hwc⟩ := hcut
        obtain ⟨wB, hwB⟩ : ∃ wB, wB = wc := ⟨_, rfl⟩
        rw [← hwB]
        rw [← hwB] at hwc
        clear hwB
        have sA := bA.size
        have eB : wB.heap[w.heap.size]? = some (.cells #[.int .i64 200, .slice (some ⟨g4, 0, none⟩) (os.length + 1) c4, .int .u32 0] 31 (0, 0)) := by rw [hwc]; exact heap_setCell_same _ _ _ _ _ _ ((bA.block _ mh).trans E9.out)
        have rB : wB.heap[w.heap.size + 1]? = some (.cells #[.int .i64 0, .slice none 0 0, .int .u32 0] 31 (0, 0)) := by rw [hwc, Below.heap_setCell _ _ _ _ (by simp)]; exact (bA.block _ (by omega)).trans R9.out
        have obB : wB.heap[ob]? = some (.cells #[.int .i64 (us : Int), .int .u64 (c : Int), .int .i64 k, .int .i64 3, .int .u32 0, .bool false, .slice wa wn wc1, .slice ba bn bc] 43 (0, 0)) := by rw [hwc, Below.heap_setCell _ _ _ _ (by simp; omega)]; exact (bA.block _ mo).trans HO9.out
        have sB : wB.heap.size = wA.heap.size := by rw [hwc]; simp [World.setCell]
        have BB : Below w.heap.size w wB := by rw [hwc]; exact (GB9.out.trans (bA.mono (by omega))).setCell (by simp) _
        have oB : wB.ownsRow w9.heap.size 43 8 (.slice (some ⟨g4, 0, none⟩) (os.length + 1) c4) (os.length + 1) (xs ++ ([.int .i64 (us : Int), .int .u64 (c : Int), .int .i64 k, .int .i64 3, .int .u32 0, .bool false, .slice wa wn wc1, .slice ba bn bc] : List Value)) := by rw [hwc]; exact ownsRow_setCell_below oA (by simp; omega) _
        have QB : ∀ q, ob + 1 ≤ q → q < w9.heap.size → wB.heap[q]? = w9.heap[q]? := fun q h1 h2 => by rw [hwc, Below.heap_setCell _ _ _ _ (by simp; omega)]; exact bA.block q h2
        have t0 := cellO eB 0; have t1 := cellO eB 1; have t2 := cellO eB 2
        have r0 := cellO rB 0; have r1 := cellO rB 1; have r2 := cellO rB 2
        have p0 := cellO obB 0
        have fz : ∀ i, wB.frozen? ⟨w.heap.size + 1, i, none⟩ = false := fun i => by unfold World.frozen?; rw [rB]; rfl
        have fz0 := fz 0
        have fz1 := fz 1
        have fz2 := fz 2
        simp at t0 t1 t2 r0 r1 r2 p0
        have EB := Lib.hid eB; have RB := Lib.hid rB; have BBh := Lib.hid BB; have OB := Lib.hid oB; have QBh := Lib.hid QB
        clear eB rB obB BB oB QB fz hwc oA bA b1_ b2_ b3_ b4_ b5_ b6_ b7_ b8_ y1 fy
        go_upto_region 16 with fail
        go_region
        all_goals (go_wp2_with fail)
        obtain ⟨w5, hw5⟩ : ∃ w5, w5 = (((wB.setCell ⟨w.heap.size + 1, 0, none⟩ (.int .i64 200)).setCell ⟨w.heap.size + 1, 1, none⟩ (.slice (some ⟨g4, 0, none⟩) (os.length + 1) c4)).setCell ⟨w.heap.size + 1, 2, none⟩ (.int .u32 0)).drew := ⟨_, rfl⟩
        rw [← hw5]
        have rr : w5.heap[w.heap.size + 1]? = some (.cells #[.int .i64 200, .slice (some ⟨g4, 0, none⟩) (os.length + 1) c4, .int .u32 0] 31 (0, 0)) := by
          rw [hw5, drewHeap, heap_setCell_same _ _ _ _ _ _ (heap_setCell_same _ _ _ _ _ _ (heap_setCell_same _ _ _ _ _ _ RB.out))]; rfl
        have q5 : ∀ q, q ≠ w.heap.size + 1 → w5.heap[q]? = wB.heap[q]? := fun q hq => by rw [hw5, drewHeap, Below.heap_setCell _ _ _ _ hq, Below.heap_setCell _ _ _ _ hq, Below.heap_setCell _ _ _ _ hq]
        have hz5 : w5.heap.size = wB.heap.size := by rw [hw5, drewHeap]; simp [World.setCell]
        have b5 : Below w.heap.size w w5 := by rw [hw5]; exact (((BBh.out.setCell (by simp) _).setCell (by simp) _).setCell (by simp) _).drew
        have o5 : w5.ownsRow w9.heap.size 43 8 (.slice (some ⟨g4, 0, none⟩) (os.length + 1) c4) (os.length + 1) (xs ++ ([.int .i64 (us : Int), .int .u64 (c : Int), .int .i64 k, .int .i64 3, .int .u32 0, .bool false, .slice wa wn wc1, .slice ba bn bc] : List Value)) := by rw [hw5]; exact ownsRow_setCell_below (ownsRow_setCell_below (ownsRow_setCell_below OB.out (by simp; omega) _) (by simp; omega) _) (by simp; omega) _
        have v0 := cellO rr 0; have v1 := cellO rr 1; have v2 := cellO rr 2
        simp at v0 v1 v2
        have hst : ∀ q, ob + 1 ≤ q → q < w9.heap.size → w5.heap[q]? = w9.heap[q]? := fun q l1 l2 => (q5 q (by omega)).trans (QBh.out q l1 l2)
        have hcs : RCells C w5 (xs ++ ([.int .i64 (us : Int), .int .u64 (c : Int), .int .i64 k, .int .i64 3, .int .u32 0, .bool false, .slice wa wn wc1, .slice ba bn bc] : List Value)) (os ++ [⟨us, c, k, newW k, newB k⟩]) :=
          (HX.out.later b5).append (RCells.one (o := ⟨us, c, k, newW k, newB k⟩) (HW9.out.stays U1.out hst) (HB9.out.stays U2.out hst) ⟨fun b o n c e => Nat.le_trans (by omega) (U1.out b o n c e), fun b o n c e => Nat.le_trans (by omega) (U2.out b o n c e)⟩)
        refine bodyPost_ret (v := .tuple #[.agg #[.int .i64 200, .slice (some ⟨g4, 0, none⟩) (os.length + 1) c4, .int .u32 0], .int .u64 (us * 2 : Int), .int .i64 0]) (by simp [results, Tryd.results18, go_sem, v0, v1, v2]) rfl ⟨_, rfl, robjs_of_owns o5 (by omega) hcs, b5⟩
end Go.Proofs.YtobajnodckiohaaDoor
