/- Going through objects: what the walk's state is; it begins. Going through objects: led to a word. Going through objects: led to an object that was not met. Going through objects: led to any word; all from an object. Going through objects: all that is led to from some words, the last one first. Going through objects: how many steps from one to another. Going through objects: led to zero, to a word that is no object's. Going through objects, whatever their words: led to any word; all from any object; all that is led to. What is reached is just what the roots lead to. -/
import Derived.Test.YtibopjjicfiimaaGreatDoorHeapPut
import Derived.Test.YtibopjjicfiimaaGreatDoorPackMore
import Derived.Test.YtibopjjicfiimaaGreatDoorRefHeap
import Derived.Deep.RegionWith
import Derived.Deep.CutBlock
import Derived.BigQuiet
namespace Go.Proofs.YtibopjjicfiimaaGreatDoor
open Go.RowKit
set_option linter.unusedVariables false
set_option maxRecDepth 100000 in
theorem hcells_any (B h N free : Nat) (S : Nat → Bool) (M : Nat → Nat) (w : World) (H : HeapAt w B h N free S M) :
    Calls Tryz.prog 36 #[.pointer (some ⟨h, 0, none⟩)] w fun e w' => e = .returned (.int .i64 (N : Int)) ∧ w' = w := by
  obtain ⟨g, s, h1, h2, h3, h3', h4, h5, h6, h7, h8⟩ := H
  have c0 : w.cell? ⟨h, 0, none⟩ = some (.slice (some ⟨g, 0, none⟩) N N) := by simp [World.cell?, h5]
  have hl := (Array.getElem?_eq_some_iff.1 h5).1
  clear h5 h6 h8
  go_enter Tryz.func36, Tryz.ntmps36
  go_wp2_with fail
  go_ret
  exact ⟨rfl, rfl⟩
def wordCells (l : List Nat) : List Value := l.map fun (x : Nat) => Value.int .u64 (Int.ofNat x)
/-- a row of words of the call's own -/
def OwnsW (w : World) (B : Nat) (v : Value) (l : List Nat) : Prop := w.ownsRow B 39 1 v l.length (wordCells l)
theorem OwnsW.keeps {w w' : World} {B : Nat} {v : Value} {l : List Nat} {T : TypeId} (h : OwnsW w B v l) (hk : KeepsBut T w w') (hT : 39 ≠ T) : OwnsW w' B v l := by
  unfold OwnsW at h ⊢
  obtain ⟨h0, h⟩ := h
  refine ⟨h0, ?_⟩
  rcases h with h | ⟨g, cap, cur, h1, h2, h3, h4⟩
  · exact Or.inl h
  · exact Or.inr ⟨g, cap, cur, h1, h2, by rw [hk g _ _ _ h3 hT]; exact h3, h4⟩
/-- the walk's state: which objects were met, which wait, how many cells they have; nothing is loose -/
def LookAt (w : World) (B p h N : Nat) (T : Nat → Bool) (l : List Nat) (k : Nat) (q : Bool) : Prop :=
  ∃ b v, B ≤ p ∧ B ≤ b ∧ w.heap[p]? = some (.cells #[.pointer (some ⟨h, 0, none⟩), .pointer (some ⟨b, 0, none⟩), v, .int .i64 (k : Int), .bool q] 135 (0, 0)) ∧ BitsAt w B b N T ∧ OwnsW w B v l
theorem LookAt.keeps {w w' : World} {B p h N k : Nat} {T : Nat → Bool} {l : List Nat} {q : Bool} {t : TypeId} (H : LookAt w B p h N T l k q) (hk : KeepsBut t w w') (t1 : 135 ≠ t) (t2 : 39 ≠ t) (t3 : 138 ≠ t) (t4 : 30 ≠ t) : LookAt w' B p h N T l k q := by
  obtain ⟨b, v, h1, h2, h3, h4, h5⟩ := H
  exact ⟨b, v, h1, h2, by rw [hk p _ _ _ h3 t1]; exact h3, h4.keeps hk t3 t4, h5.keeps hk t2⟩
theorem LookAt.later {w w' : World} {B p h N k : Nat} {T : Nat → Bool} {l : List Nat} {q : Bool} (H : LookAt w B p h N T l k q) (hb : Below w.heap.size w w') : LookAt w' B p h N T l k q := by
  obtain ⟨b, v, h1, h2, h3, h4, h5⟩ := H
  exact ⟨b, v, h1, h2, by rw [hb.block p (Array.getElem?_eq_some_iff.1 h3).1]; exact h3, h4.later hb, owns_later h5 hb⟩
set_option maxRecDepth 100000 in
theorem begin_any (B h N free : Nat) (S : Nat → Bool) (M : Nat → Nat) (w : World) (H : HeapAt w B h N free S M) :
    Calls Tryz.prog 66 #[.pointer (some ⟨h, 0, none⟩)] w fun e w' => ∃ p, e = .returned (.pointer (some ⟨p, 0, none⟩)) ∧ LookAt w' w.heap.size p h N (fun _ => false) [] 0 false ∧ Below w.heap.size w w' := by
  have HC := Lib.hid (hcells_any B h N free S M w H)
  have hN : N ≤ 16777216 := by obtain ⟨g, s, -, -, h3, -⟩ := H; exact h3
  have NB := Lib.hid (newBits_any (N : Int) w)
  rw [show sizeZ (N : Int) = N by unfold sizeZ; omega] at NB
  go_enter Tryz.func66, Tryz.ntmps66
  go_wp2_with fail
  refine HC.out.mono ?_
  rintro e w1 ⟨rfl, rfl⟩
  go_wp2_with fail
  refine NB.out.mono ?_
  rintro e w2 ⟨rfl, hb, hg⟩
  have HB := Lib.hid hb; have HG := Lib.hid hg; clear hb hg
  go_wp2_with fail
  go_ret
  have hs : w1.heap.size ≤ w2.heap.size := HG.out.size
  refine ⟨w2.heap.size, rfl, ⟨w1.heap.size + 1, .slice none 0 0, hs, by omega, heap_alloc_new w2 _, HB.out.later ((Below.refl _ w2).alloc (Nat.le_refl _) _), show World.ownsRow _ _ _ _ _ 0 [] from World.ownsRow_nil _ _ _ _⟩, HG.out.alloc hs _⟩
end Go.Proofs.YtibopjjicfiimaaGreatDoor
namespace Go.Proofs.YtibopjjicfiimaaGreatDoor
open Go.RowKit
set_option linter.unusedVariables false
/-- blocks of other elements than the walk's are as they were -/
def Keeps3 (w w' : World) : Prop := ∀ (q : Nat) (c : Array Value) (T : TypeId) (fr : Nat × Nat), w.heap[q]? = some (Obj.cells c T fr) → T ≠ 135 → T ≠ 39 → T ≠ 30 → w'.heap[q]? = w.heap[q]?
theorem Keeps3.trans {w w' w2 : World} (h : Keeps3 w w') (h' : Keeps3 w' w2) : Keeps3 w w2 := by
  intro q c T fr hq h1 h2 h3
  have e1 := h q c T fr hq h1 h2 h3
  rw [h' q c T fr (by rw [e1]; exact hq) h1 h2 h3, e1]
theorem Keeps3.ofLook {w w' : World} (h : KeepsBut 135 w w') : Keeps3 w w' := fun q c T fr hq h1 _ _ => h q c T fr hq h1
theorem Keeps3.ofWord {w w' : World} (h : KeepsBut 39 w w') : Keeps3 w w' := fun q c T fr hq _ h2 _ => h q c T fr hq h2
theorem Keeps3.ofBits {w w' : World} (h : KeepsBut 30 w w') : Keeps3 w w' := fun q c T fr hq _ _ h3 => h q c T fr hq h3
theorem LookAt.parts {w : World} {B p h N k : Nat} {T : Nat → Bool} {l : List Nat} {q : Bool} (H : LookAt w B p h N T l k q) :
    ∃ b v, B ≤ p ∧ p < w.heap.size ∧ w.cell? ⟨p, 0, none⟩ = some (.pointer (some ⟨h, 0, none⟩)) ∧ w.cell? ⟨p, 1, none⟩ = some (.pointer (some ⟨b, 0, none⟩)) ∧ w.cell? ⟨p, 2, none⟩ = some v ∧ w.cell? ⟨p, 3, none⟩ = some (.int .i64 (k : Int)) ∧ w.cell? ⟨p, 4, none⟩ = some (.bool q) ∧
      (∀ j, w.frozen? ⟨p, j, none⟩ = false) ∧ BitsAt w B b N T ∧ OwnsW w B v l := by
  obtain ⟨b, v, h1, h2, h3, h4, h5⟩ := H
  have hp := (Array.getElem?_eq_some_iff.1 h3).1
  have z0 := cellO h3 0
  have z1 := cellO h3 1
  have z2 := cellO h3 2
  have z3 := cellO h3 3
  have z4 := cellO h3 4
  refine ⟨b, v, h1, hp, z0, z1, z2, z3, z4, fun j => ?_, h4, h5⟩
  unfold World.frozen?; rw [h3]; cases j <;> rfl
set_option maxRecDepth 100000 in
/-- led to a small word: nothing is changed -/
theorem lead_small (p : Value) (x : Nat) (hx : x < 18446744073709551616) (hx2 : x % 2 = 1) (w : World) :
    Calls Tryz.prog 67 #[p, .int .u64 (x : Int)] w fun e w' => e = .returned (.tuple #[]) ∧ w' = w := by
  have q1 : decide ((x : Int) % 2 = 1) = true := by simp; omega
  have q2 : ¬ (x : Int) = 0 := by omega
  have IS := Lib.hid (fun W => is_any (x : Int) (by omega) (by omega) W)
  rw [q1] at IS
  go_enter Tryz.func67, Tryz.ntmps67
  go_wp2_with fail
  refine (IS.out _).mono ?_
  rintro e w1 ⟨rfl, rfl⟩
  go_wp2_with fail
  exact bodyPost_ret (v := .tuple #[]) (by simp [results, Tryz.results67, go_sem]) rfl ⟨rfl, rfl⟩
set_option maxRecDepth 100000 in
set_option maxHeartbeats 1000000 in
/-- led to an object that was met: nothing is changed -/
theorem lead_old (w0 : World) (B0 B p h N free a : Nat) (S : Nat → Bool) (M : Nat → Nat) (T : Nat → Bool) (l : List Nat) (k : Nat) (q : Bool) (w : World) (H0 : HeapAt w0 B0 h N free S M) (hB : w0.heap.size = B) (hw : Below B w0 w) (L : LookAt w B p h N T l k q)
    (a0 : 1 ≤ a) (ha : a + 2 ≤ N) (hS' : S a = true) (hok : UnOK (M a) (M (a + 1))) (hT : T a = true) :
    Calls Tryz.prog 67 #[.pointer (some ⟨p, 0, none⟩), .int .u64 (a * 2 : Int)] w fun e w' => e = .returned (.tuple #[]) ∧ LookAt w' B p h N T l k q ∧ Below B w w' ∧ KeepsBut 30 w w' := by
  have hN : N ≤ 16777216 := by obtain ⟨g, s, -, -, h3, -⟩ := H0; exact h3
  subst hB
  have HD := Lib.hid (fun W (hW : Below w0.heap.size w0 W) => hHead_yes B0 h N free a S M W (H0.later hW) a0 ha hS' hok)
  have LL := Lib.hid L
  have HW := Lib.hid hw
  have IS := Lib.hid (fun W => is_any (a * 2 : Int) (by omega) (by omega) W)
  rw [show decide ((a * 2 : Int) % 2 = 1) = false by simp] at IS
  have AT := Lib.hid (fun W => at_yes (a * 2 : Int) (by omega) (by omega) (by omega) W)
  rw [show (a * 2 : Int) / 2 = (a : Int) by omega] at AT
  have z0 : w.cell? ⟨p, 0, none⟩ = some (.pointer (some ⟨h, 0, none⟩)) := by obtain ⟨b, v, h1, h2, z0, -⟩ := L.parts; exact z0
  have q2 : ¬ (a : Int) * 2 = 0 := by omega
  clear hok hS' H0 L
  go_enter Tryz.func67, Tryz.ntmps67
  go_wp2_with fail
  refine (IS.out _).mono ?_
  rintro e w1 ⟨rfl, rfl⟩
  go_wp2_with fail
  refine (HD.out _ hw).mono ?_
  rintro e w2 ⟨rfl, hg2⟩
  generalize hK (M (a + 1)) = vk at *
  generalize hS (M (a + 1)) = vs at *
  generalize hH (M (a + 1)) = vh at *
  generalize hM (M (a + 1)) = vm at *
  go_wp2_with fail
  obtain ⟨w3, hw3⟩ : ∃ w3, w3 = w2.alloc (.cells #[.int .u64 (M a : Int), .int .i64 vk, .int .i64 vs, .int .u32 vh, .bool vm] 119) := ⟨_, rfl⟩
  have hg3 : Below w.heap.size w w3 := by rw [hw3]; exact hg2.alloc hg2.size _
  rw [← hw3]
  clear hw3
  obtain ⟨b, v, k1, k2, k3, k4, k5⟩ := LL.out.later hg3
  have hBw : w0.heap.size ≤ w.heap.size := HW.out.size
  have hB3 : w0.heap.size ≤ w3.heap.size := Nat.le_trans hBw hg3.size
  have SK := Lib.hid (set_keep w0.heap.size b N T (a : Int) true w3 k4 hB3)
  have hsb : setB N T (a : Int) true = false := by unfold setB; simp [hT]
  have hss : setS N T (a : Int) true = T := by
    funext j; unfold setS; split
    · rename_i hj; rw [show j = a by omega, hT]
    · rfl
  rw [hsb, hss] at SK
  have y1 := cellO k3 1
  simp at y1
  have KE := Lib.hid (show ∀ w4, KeepsBut 30 w3 w4 → BitsAt w4 w0.heap.size b N T → LookAt w4 w0.heap.size p h N T l k q from fun w4 hk hb => ⟨b, v, k1, k2, (hk p _ _ _ k3 (by decide)).trans k3, hb, k5.keeps hk (by decide)⟩)
  have HG3 := Lib.hid (hg3.mono hBw)
  have HK3 := Lib.hid (KeepsBut.below (T0 := 30) hg3)
  clear k3 k4 k5 hg2 hg3 z0
  refine (AT.out _).mono ?_
  rintro e w3' ⟨rfl, rfl⟩
  go_wp2_with fail
  refine SK.out.mono ?_
  rintro e w4 ⟨rfl, hb4, hg4, hk4⟩
  have HL4 := Lib.hid (KE.out w4 hk4 hb4)
  have HG4 := Lib.hid (HG3.out.trans hg4)
  have HK4 := Lib.hid (HK3.out.trans hk4)
  clear hb4 hg4 hk4
  go_wp2_with fail
  go_end0
  exact ⟨rfl, HL4.out, HG4.out, HK4.out⟩
end Go.Proofs.YtibopjjicfiimaaGreatDoor
namespace Go.Proofs.YtibopjjicfiimaaGreatDoor
open Go.RowKit
set_option linter.unusedVariables false
/-- a row of its own that is grown: blocks of other elements are as they were -/
theorem KeepsBut.grown {T : TypeId} {w w' : World} {B size n : Nat} {v : Value} {xs : List Value} (ho : w.ownsRow B T size v n xs) (h : w.grownBy w' v.ownBlock) : KeepsBut T w w' := by
  intro q c T' fr hq hT
  refine h.block q (Array.getElem?_eq_some_iff.1 hq).1 (fun e => ?_)
  obtain ⟨-, ⟨rfl, -⟩ | ⟨g, cap, cur, rfl, h2, h3, h4⟩⟩ := ho
  · cases e
  · have : g = q := by simpa [Value.ownBlock] using e.symm
    subst this
    rw [hq] at h3
    simp at h3
    exact hT h3.2.1
theorem OwnsW.of {w : World} {B n : Nat} {v : Value} {xs : List Value} {l : List Nat} (h : w.ownsRow B 39 1 v n xs) (hx : xs = wordCells l) : OwnsW w B v l := by
  subst hx
  have hn : n = l.length := by have := h.1; simp [wordCells] at this; omega
  subst hn
  exact h
set_option maxRecDepth 100000 in
set_option maxHeartbeats 1000000 in
/-- led to an object that was not met -/
theorem lead_new (w0 : World) (B0 B p h N free a : Nat) (S : Nat → Bool) (M : Nat → Nat) (T : Nat → Bool) (l : List Nat) (k : Nat) (q : Bool) (w : World) (H0 : HeapAt w0 B0 h N free S M) (hB : w0.heap.size = B) (hw : Below B w0 w) (L : LookAt w B p h N T l k q)
    (a0 : 1 ≤ a) (ha : a + 2 ≤ N) (hS' : S a = true) (hok : UnOK (M a) (M (a + 1))) (hT : T a = false) (hl : l.length ≤ 1000000000000) (hk : k ≤ 1000000000000000000) :
    Calls Tryz.prog 67 #[.pointer (some ⟨p, 0, none⟩), .int .u64 (a * 2 : Int)] w fun e w' => e = .returned (.tuple #[]) ∧ LookAt w' B p h N (setS N T (a : Int) true) (l ++ [a * 2]) (k + 2 + (cellsZ (M a) (hK (M (a + 1))) (hS (M (a + 1))) (hH (M (a + 1)))).toNat) q ∧ Below B w w' ∧ Keeps3 w w' := by
  obtain ⟨i0, hi, hz0, hz1, hz2⟩ := info_parts cellInfo
  have hN : N ≤ 16777216 := by obtain ⟨g, s, -, -, h3, -⟩ := H0; exact h3
  subst hB
  have HD := Lib.hid (fun W (hW : Below w0.heap.size w0 W) => hHead_yes B0 h N free a S M W (H0.later hW) a0 ha hS' hok)
  have LL := Lib.hid L
  have HW := Lib.hid hw
  have hMa : M a < 18446744073709551616 := by obtain ⟨g, s, -, -, -, -, -, -, -, h7, -⟩ := H0; exact h7 a
  have IS := Lib.hid (fun W => is_any (a * 2 : Int) (by omega) (by omega) W)
  rw [show decide ((a * 2 : Int) % 2 = 1) = false by simp] at IS
  have AT := Lib.hid (fun W => at_yes (a * 2 : Int) (by omega) (by omega) (by omega) W)
  rw [show (a * 2 : Int) / 2 = (a : Int) by omega] at AT
  have z0 : w.cell? ⟨p, 0, none⟩ = some (.pointer (some ⟨h, 0, none⟩)) := by obtain ⟨b, v, h1, h2, z0, -⟩ := L.parts; exact z0
  have hcb := cellsZ_bd (M a) (hK (M (a + 1))) (hS (M (a + 1))) (hH (M (a + 1)))
  have CZ := Lib.hid (fun W => cells_any (M a : Int) (hK (M (a + 1))) (hS (M (a + 1))) (hH (M (a + 1))) (hM (M (a + 1))) (by omega) (by omega) W)
  obtain ⟨c, hc⟩ : ∃ c : Nat, cellsZ (M a) (hK (M (a + 1))) (hS (M (a + 1))) (hH (M (a + 1))) = (c : Int) := ⟨(cellsZ (M a) (hK (M (a + 1))) (hS (M (a + 1))) (hH (M (a + 1)))).toNat, by omega⟩
  rw [hc] at hcb CZ
  rw [hc, Int.toNat_natCast]
  clear hc
  have q2 : ¬ (a : Int) * 2 = 0 := by omega
  clear hok hS' H0 L
  go_enter Tryz.func67, Tryz.ntmps67
  go_wp2_with fail
  refine (IS.out _).mono ?_
  rintro e w1 ⟨rfl, rfl⟩
  go_wp2_with fail
  refine (HD.out _ hw).mono ?_
  rintro e w2 ⟨rfl, hg2⟩
  generalize hK (M (a + 1)) = vk at *
  generalize hS (M (a + 1)) = vs at *
  generalize hH (M (a + 1)) = vh at *
  generalize hM (M (a + 1)) = vm at *
  go_wp2_with fail
  obtain ⟨w3, hw3⟩ : ∃ w3, w3 = w2.alloc (.cells #[.int .u64 (M a : Int), .int .i64 vk, .int .i64 vs, .int .u32 vh, .bool vm] 119) := ⟨_, rfl⟩
  have hg3 : Below w.heap.size w w3 := by rw [hw3]; exact hg2.alloc hg2.size _
  rw [← hw3]
  have hx3 : w3.heap[w2.heap.size]? = some (.cells #[.int .u64 (M a : Int), .int .i64 vk, .int .i64 vs, .int .u32 vh, .bool vm] 119 (0, 0)) := by rw [hw3]; exact heap_alloc_new w2 _
  clear hw3
  obtain ⟨b, v, k1, k2, k3, k4, k5⟩ := LL.out.later hg3
  have hBw : w0.heap.size ≤ w.heap.size := HW.out.size
  have hB3 : w0.heap.size ≤ w3.heap.size := Nat.le_trans hBw hg3.size
  have SK := Lib.hid (set_keep w0.heap.size b N T (a : Int) true w3 k4 hB3)
  have hsb : setB N T (a : Int) true = true := by unfold setB; simp [hT]; omega
  rw [hsb] at SK
  have y1 := cellO k3 1
  simp at y1
  have KE := Lib.hid (show ∀ w4, KeepsBut 30 w3 w4 → w4.heap[p]? = some (.cells #[.pointer (some ⟨h, 0, none⟩), .pointer (some ⟨b, 0, none⟩), v, .int .i64 (k : Int), .bool q] 135 (0, 0)) ∧ w4.heap[w2.heap.size]? = some (.cells #[.int .u64 (M a : Int), .int .i64 vk, .int .i64 vs, .int .u32 vh, .bool vm] 119 (0, 0)) ∧ OwnsW w4 w0.heap.size v l from
    fun w4 hk => ⟨(hk p _ _ _ k3 (by decide)).trans k3, (hk _ _ _ _ hx3 (by decide)).trans hx3, k5.keeps hk (by decide)⟩)
  have HG3 := Lib.hid (hg3.mono hBw)
  have HK3 := Lib.hid (KeepsBut.below (T0 := 30) hg3)
  clear k3 k4 k5 hg2 hg3 z0 hx3
  refine (AT.out _).mono ?_
  rintro e w3' ⟨rfl, rfl⟩
  go_wp2_with fail
  refine SK.out.mono ?_
  rintro e w4 ⟨rfl, hb4, hg4, hk4⟩
  obtain ⟨g1, g2, g3⟩ := KE.out w4 hk4
  have hp4 : p < w4.heap.size := (Array.getElem?_eq_some_iff.1 g1).1
  have z3 := cellO g1 3
  have x0 := cellO g2 0
  have x1 := cellO g2 1
  have x2 := cellO g2 2
  have x3 := cellO g2 3
  have x4 := cellO g2 4
  have f3 : w4.frozen? ⟨p, 3, none⟩ = false := by unfold World.frozen?; rw [g1]; rfl
  simp at z3 x0 x1 x2 x3 x4
  have HP4 := Lib.hid g1
  have HB4 := Lib.hid hb4
  have HO4 := Lib.hid g3
  have HG4 := Lib.hid (HG3.out.trans hg4)
  have HK4 := Lib.hid (Keeps3.ofBits (HK3.out.trans hk4))
  have hB4 : w0.heap.size ≤ w4.heap.size := Nat.le_trans hB3 hg4.size
  generalize w2.heap.size = x at *
  clear hb4 hg4 hk4 g1 g2 g3
  go_upto_region 6 with fail
  go_cut [] from 39 to 49 (fun wx => ∃ w5, Below w4.heap.size w4 w5 ∧ wx = w5.setCell ⟨p, 3, none⟩ (.int .i64 ((k + 2 + c : Nat) : Int)))
  case first =>
    go_region_with (go_at_call 69; go_loud (refine (CZ.out _).mono ?_; rintro e w5 ⟨rfl, hg5⟩; have hq5 : w5.cell? ⟨p, 3, none⟩ = some (.int .i64 (k : Int)) := (hg5.cell (p := ⟨p, 3, none⟩) hp4).trans z3; have hf5 : w5.frozen? ⟨p, 3, none⟩ = false := (hg5.frozen (p := ⟨p, 3, none⟩) hp4).trans f3; have HG5 := Lib.hid hg5; clear hg5))
    all_goals (go_wp2_with fail)
    all_goals go_meet
    all_goals exact ⟨_, ⟨HG5.out.os, HG5.out.tape, HG5.out.output, HG5.out.size, HG5.out.block⟩, by rw [show IntKind.i64.wrap ((k : Int) + IntKind.i64.wrap (2 + (c : Int))) = ((k + 2 + c : Nat) : Int) by simp [IntKind.wrap, IntKind.bits, IntKind.signed]; omega]⟩
  case rest =>
    obtain ⟨w5, hg5, hwc⟩ := hcut
    obtain ⟨w6, hw6⟩ : ∃ w6, w6 = wc := ⟨_, rfl⟩
    rw [← hw6]
    rw [← hw6] at hwc
    clear hw6
    have e5 : w5.heap[p]? = some (.cells #[.pointer (some ⟨h, 0, none⟩), .pointer (some ⟨b, 0, none⟩), v, .int .i64 (k : Int), .bool q] 135 (0, 0)) := (hg5.block p hp4).trans HP4.out
    have e6 : w6.heap[p]? = some (.cells #[.pointer (some ⟨h, 0, none⟩), .pointer (some ⟨b, 0, none⟩), v, .int .i64 ((k + 2 + c : Nat) : Int), .bool q] 135 (0, 0)) := by rw [hwc]; exact heap_setCell_same w5 p 3 _ _ _ e5
    have K6 : KeepsBut 135 w4 w6 := by rw [hwc]; exact (KeepsBut.below hg5).setCell ⟨_, _, e5⟩
    have G6 : Below w0.heap.size w4 w6 := by rw [hwc]; exact (hg5.mono hB4).setCell k1 _
    have hB6 : w0.heap.size ≤ w6.heap.size := Nat.le_trans hB4 G6.size
    have HB6 := Lib.hid (HB4.out.keeps K6 (by decide) (by decide))
    have ho6 := HO4.out.keeps K6 (by decide)
    have HO6 := Lib.hid ho6
    have HG6 := Lib.hid (HG4.out.trans G6)
    have HK6 := Lib.hid (HK4.out.trans (Keeps3.ofLook K6))
    have hp6 : p < w6.heap.size := (Array.getElem?_eq_some_iff.1 e6).1
    have y2 := cellO e6 2
    have f2 : w6.frozen? ⟨p, 2, none⟩ = false := by unfold World.frozen?; rw [e6]; rfl
    simp at y2
    have HP6 := Lib.hid e6
    clear hwc e5 e6 K6 G6 ho6 hg5 HP4 HB4 HO4 HG4 z3 f3 x0 x1 x2 x3 x4
    go_wp2_with (at_builtin; refine wpList_append_own _ rfl _ _ 40 rfl w0.heap.size 39 i0 (.int .u64 0) 1 8 Tryz.underlying40 hi hz0 hz1 hz2 rfl (by decide) _ _ _ rfl (HO6.out.alloc _) ⟨w6.heap.size, 0, none⟩ 1 1 [.int .u64 (a * 2 : Int)] rfl rfl ?c1 ?c2 ?c3 ?c4 ?c5 ?_)
    case c1 =>
      intro j u hj
      match j, hj with
      | 0, hj => simp at hj; subst hj; simp [Addr.add]
    case c2 => intro u hu; simp at hu; subst hu; rfl
    case c3 => unfold maxLen; omega
    case c4 => omega
    case c5 => simp; omega
    intro v' w7 hown' hgrow _
    obtain ⟨a7, n7, c7, rfl⟩ : ∃ a7 n7 c7, v' = .slice a7 n7 c7 := by
      obtain ⟨-, ⟨rfl, -⟩ | ⟨g, cap, cur, rfl, -⟩⟩ := hown'
      · exact ⟨_, _, _, rfl⟩
      · exact ⟨_, _, _, rfl⟩
    have ho7 := OwnsW.of hown' (l := l ++ [a * 2]) (by simp [wordCells])
    have K7 : KeepsBut 39 w6 w7 := ((KeepsBut.alloc _ _ _).trans (KeepsBut.grown (HO6.out.alloc _) hgrow))
    have G7 : Below w0.heap.size w6 w7 := ((Below.refl _ w6).alloc hB6 _).grown hgrow (by simp; omega) (fun q hq => (HO6.out.lt q hq).1)
    have e7 : w7.heap[p]? = some (.cells #[.pointer (some ⟨h, 0, none⟩), .pointer (some ⟨b, 0, none⟩), v, .int .i64 ((k + 2 + c : Nat) : Int), .bool q] 135 (0, 0)) := (K7 p _ _ _ HP6.out (by decide)).trans HP6.out
    have HB7 := Lib.hid (HB6.out.keeps K7 (by decide) (by decide))
    have HG7 := Lib.hid (HG6.out.trans G7)
    have HK7 := Lib.hid (HK6.out.trans (Keeps3.ofWord K7))
    have HO7 := Lib.hid ho7
    have HE7 := Lib.hid e7
    have f7 : w7.frozen? ⟨p, 2, none⟩ = false := by unfold World.frozen?; rw [e7]; rfl
    have y7 := cellO e7 2
    simp at y7
    clear hown' hgrow ho7 K7 G7 HP6 HB6 HO6 HG6 f2 y2 e7
    go_wp2_with fail
    go_end0
    refine ⟨rfl, ⟨b, _, k1, k2, heap_setCell_same w7 p 2 _ _ _ HE7.out, ?_, ?_⟩, HG7.out.setCell k1 _, HK7.out.trans (Keeps3.ofLook ((KeepsBut.refl 135 w7).setCell ⟨_, _, HE7.out⟩))⟩
    · exact HB7.out.keeps ((KeepsBut.refl 135 w7).setCell ⟨_, _, HE7.out⟩) (by decide) (by decide)
    · exact HO7.out.keeps ((KeepsBut.refl 135 w7).setCell ⟨_, _, HE7.out⟩) (by decide)
end Go.Proofs.YtibopjjicfiimaaGreatDoor
namespace Go.Proofs.YtibopjjicfiimaaGreatDoor
open Go.RowKit
set_option linter.unusedVariables false
/-- what was met, what waits, how many cells -/
abbrev St := (Nat → Bool) × List Nat × Nat
def cz (M : Nat → Nat) (a : Nat) : Nat := (cellsZ (M a) (hK (M (a + 1))) (hS (M (a + 1))) (hH (M (a + 1)))).toNat
theorem cz_bd (M : Nat → Nat) (a : Nat) : cz M a ≤ 1048576 := by
  have := cellsZ_bd (M a) (hK (M (a + 1))) (hS (M (a + 1))) (hH (M (a + 1)))
  unfold cz; omega
def lead1 (N : Nat) (M : Nat → Nat) (s : St) (x : Nat) : St :=
  if x % 2 = 1 then s else if s.1 (x / 2) = true then s else (setS N s.1 ((x / 2 : Nat) : Int) true, s.2.1 ++ [x], s.2.2 + 2 + cz M (x / 2))
def OKW (N : Nat) (S : Nat → Bool) (M : Nat → Nat) (x : Nat) : Prop := x < 18446744073709551616 ∧ (x % 2 = 1 ∨ ∃ a, x = a * 2 ∧ OKO N S M a)
def LookS (w : World) (B p h N : Nat) (s : St) : Prop := LookAt w B p h N s.1 s.2.1 s.2.2 false
theorem lead1_len (N : Nat) (M : Nat → Nat) (s : St) (x : Nat) : s.2.1.length ≤ (lead1 N M s x).2.1.length ∧ (lead1 N M s x).2.1.length ≤ s.2.1.length + 1 ∧ (lead1 N M s x).2.2 ≤ s.2.2 + 1048578 := by
  have := cz_bd M (x / 2)
  unfold lead1
  split
  · exact ⟨Nat.le_refl _, by omega, by omega⟩
  · split
    · exact ⟨Nat.le_refl _, by omega, by omega⟩
    · simp; omega
theorem lead_any (w0 : World) (B0 B p h N free x : Nat) (S : Nat → Bool) (M : Nat → Nat) (s : St) (w : World) (H0 : HeapAt w0 B0 h N free S M) (hB : w0.heap.size = B) (hw : Below B w0 w) (L : LookS w B p h N s)
    (hx : OKW N S M x) (hl : s.2.1.length ≤ 1000000000000) (hk : s.2.2 ≤ 1000000000000000000) :
    Calls Tryz.prog 67 #[.pointer (some ⟨p, 0, none⟩), .int .u64 (x : Int)] w fun e w' => e = .returned (.tuple #[]) ∧ LookS w' B p h N (lead1 N M s x) ∧ Below B w w' ∧ Keeps3 w w' ∧ ((lead1 N M s x).2.1.length = s.2.1.length → KeepsBut 30 w w') := by
  obtain ⟨hx0, hx⟩ := hx
  by_cases ho : x % 2 = 1
  · rw [show lead1 N M s x = s by unfold lead1; rw [if_pos ho]]
    refine (lead_small _ x hx0 ho w).mono ?_
    rintro e w' ⟨rfl, rfl⟩
    exact ⟨rfl, L, Below.refl _ _, Keeps3.ofBits (KeepsBut.refl _ _), fun _ => KeepsBut.refl _ _⟩
  · obtain ⟨a, rfl, a0, ha, hS', hok⟩ := hx.resolve_left ho
    rw [show ((a * 2 : Nat) : Int) = (a : Int) * 2 by omega]
    have e2 : a * 2 / 2 = a := by omega
    by_cases hT : s.1 a = true
    · rw [show lead1 N M s (a * 2) = s by unfold lead1; rw [if_neg ho, e2, if_pos hT]]
      refine (lead_old w0 B0 B p h N free a S M s.1 s.2.1 s.2.2 false w H0 hB hw L a0 ha hS' hok hT).mono ?_
      rintro e w' ⟨rfl, h1, h2, h3⟩
      exact ⟨rfl, h1, h2, Keeps3.ofBits h3, fun _ => h3⟩
    · rw [show lead1 N M s (a * 2) = (setS N s.1 (a : Int) true, s.2.1 ++ [a * 2], s.2.2 + 2 + cz M a) by unfold lead1; rw [if_neg ho, e2, if_neg hT]]
      refine (lead_new w0 B0 B p h N free a S M s.1 s.2.1 s.2.2 false w H0 hB hw L a0 ha hS' hok (by simpa using hT) hl hk).mono ?_
      rintro e w' ⟨rfl, h1, h2, h3⟩
      exact ⟨rfl, h1, h2, h3, fun h => by simp at h⟩
/-- all that an object leads to, up to a slot -/
def allN (N : Nat) (M : Nat → Nat) (s : St) (a : Nat) : Nat → St
  | 0 => lead1 N M s (M a)
  | i + 1 => lead1 N M (allN N M s a i) (M (a + 2 + i))
theorem allN_len (N : Nat) (M : Nat → Nat) (s : St) (a i : Nat) : s.2.1.length ≤ (allN N M s a i).2.1.length ∧ (allN N M s a i).2.1.length ≤ s.2.1.length + 1 + i ∧ (allN N M s a i).2.2 ≤ s.2.2 + 1048578 * (i + 1) := by
  induction i with
  | zero => have := lead1_len N M s (M a); unfold allN; omega
  | succ i ih => have := lead1_len N M (allN N M s a i) (M (a + 2 + i)); unfold allN; omega
def allM (N : Nat) (M : Nat → Nat) (s : St) (a : Nat) : St := allN N M s a (hS (M (a + 1))).toNat
/-- an object of slots, all whose words are objects or small -/
def OKF (N : Nat) (S : Nat → Bool) (M : Nat → Nat) (a : Nat) : Prop :=
  OKO N S M a ∧ hK (M (a + 1)) ≠ 2 ∧ a + 2 + (hS (M (a + 1))).toNat ≤ N ∧ OKW N S M (M a) ∧ ∀ i, i < (hS (M (a + 1))).toNat → OKW N S M (M (a + 2 + i))
set_option maxRecDepth 100000 in
set_option maxHeartbeats 1000000 in
theorem all_any (w0 : World) (B0 B p h N free a : Nat) (S : Nat → Bool) (M : Nat → Nat) (s : St) (w : World) (H0 : HeapAt w0 B0 h N free S M) (hB : w0.heap.size = B) (hw : Below B w0 w) (L : LookS w B p h N s)
    (ha : OKF N S M a) (hl : s.2.1.length ≤ 10000000000) (hk : s.2.2 ≤ 10000000000000000) :
    Calls Tryz.prog 68 #[.pointer (some ⟨p, 0, none⟩), .int .u64 (a * 2 : Int)] w fun e w' => e = .returned (.tuple #[]) ∧ LookS w' B p h N (allM N M s a) ∧ Below B w w' ∧ ((allM N M s a).2.1.length = s.2.1.length → KeepsBut 30 w w') := by
  obtain ⟨⟨a0, a1, a2, hok⟩, hk2, ha2, hx0, hxi⟩ := ha
  have hN : N ≤ 16777216 := by obtain ⟨g, s, -, -, h3, -⟩ := H0; exact h3
  unfold allM
  obtain ⟨n, hn⟩ : ∃ n : Nat, hS (M (a + 1)) = (n : Int) := ⟨(hS (M (a + 1))).toNat, by unfold hS; omega⟩
  have hn2 : n ≤ 1048576 := by have := hok.2.2.1; omega
  have HD := Lib.hid (fun W (hW : Below B w0 W) => hHead_yes B0 h N free a S M W (H0.later (hB ▸ hW)) a0 a1 a2 hok)
  have GT := Lib.hid (fun W (hW : Below B w0 W) (i : Nat) (hi : i < n) => hget_yes B0 h N free a i S M W (H0.later (hB ▸ hW)) a0 (by rw [hn] at ha2; omega) a2 hok hk2 (by rw [hn]; omega))
  have LD := Lib.hid (fun W (hW : Below B w0 W) t (hL : LookS W B p h N t) x hx h1 h2 => lead_any w0 B0 B p h N free x S M t W H0 hB hW hL hx h1 h2)
  rw [hn, Int.toNat_natCast] at hxi ha2 ⊢
  rw [hn] at HD
  have HX := Lib.hid hxi
  have HX0 := Lib.hid hx0
  have LL := Lib.hid L
  have HW := Lib.hid hw
  have z0 : w.cell? ⟨p, 0, none⟩ = some (.pointer (some ⟨h, 0, none⟩)) := by obtain ⟨b, v, h1, h2, z0, -⟩ := L.parts; exact z0
  have AL := Lib.hid (fun i => allN_len N M s a i)
  have hB0 : B ≤ w0.heap.size := by omega
  have hBs : B ≤ w.heap.size := Nat.le_trans hB0 hw.size
  generalize hK (M (a + 1)) = vk at *
  generalize hH (M (a + 1)) = vh at *
  generalize hM (M (a + 1)) = vm at *
  have hk3 : (vk == 2) = false := by simpa using hk2
  clear hok a2 H0 L hxi hx0 hB hn hk2
  go_enter Tryz.func68, Tryz.ntmps68
  go_wp2_with fail
  refine (HD.out _ hw).mono ?_
  rintro e w2 ⟨rfl, hg2⟩
  go_wp2_with fail
  obtain ⟨w3, hw3⟩ : ∃ w3, w3 = w2.alloc (.cells #[.int .u64 (M a : Int), .int .i64 vk, .int .i64 (n : Int), .int .u32 vh, .bool vm] 119) := ⟨_, rfl⟩
  have hg3 : Below w.heap.size w w3 := by rw [hw3]; exact hg2.alloc hg2.size _
  rw [← hw3]
  have hx3 : w3.heap[w2.heap.size]? = some (.cells #[.int .u64 (M a : Int), .int .i64 vk, .int .i64 (n : Int), .int .u32 vh, .bool vm] 119 (0, 0)) := by rw [hw3]; exact heap_alloc_new w2 _
  clear hw3
  have L3 : LookS w3 B p h N s := LL.out.later hg3
  have G3 : Below B w0 w3 := hw.trans (hg3.mono hBs)
  have K3 := Lib.hid (KeepsBut.below (T0 := 30) hg3)
  have HG3 := Lib.hid (hg3.mono hBs)
  generalize w2.heap.size = x at *
  refine (LD.out w3 G3 s L3 (M a) HX0.out (by omega) (by omega)).mono ?_
  rintro e w4 ⟨rfl, hl4, hg4, hk4, hf4⟩
  have hx4 := (hk4 x _ _ _ hx3 (by decide) (by decide) (by decide)).trans hx3
  have x1 := cellO hx4 1
  have x2 := cellO hx4 2
  simp at x1 x2
  have HL4 := Lib.hid (show LookS w4 B p h N (allN N M s a 0) from hl4)
  have HG4 := Lib.hid (HG3.out.trans hg4)
  have HF4 := Lib.hid (show ((allN N M s a 0).2.1.length = s.2.1.length → KeepsBut 30 w w4) from fun h => K3.out.trans (hf4 h))
  clear hl4 hg4 hk4 hf4 hx4 hx3 hg3 L3 HG3 K3 LL hg2 z0
  go_wp2_with fail
  all_goals (try (exfalso; go_light; omega))
  go_loopg [27] n (fun gg s27 wr => ∃ i : Nat, gg = n - i ∧ i ≤ n ∧ s27 = .int .i64 (i : Int) ∧ LookS wr B p h N (allN N M s a i) ∧ Below B w wr ∧ ((allN N M s a i).2.1.length = s.2.1.length → KeepsBut 30 w wr))
  case atStart => exact ⟨0, rfl, by omega, rfl, HL4.out, HG4.out, HF4.out⟩
  case round =>
    obtain ⟨i, hgi, hi, rfl, hl5, hg5, hf5⟩ := hrel
    have HGI := Lib.hid hgi
    have HL5 := Lib.hid hl5
    have HG5 := Lib.hid hg5
    have HF5 := Lib.hid hf5
    have z0 : wr.cell? ⟨p, 0, none⟩ = some (.pointer (some ⟨h, 0, none⟩)) := by obtain ⟨b, v, h1, h2, z0, -⟩ := hl5.parts; exact z0
    have G5 := Lib.hid (HW.out.trans hg5)
    have hBr : B ≤ wr.heap.size := Nat.le_trans hBs hg5.size
    clear hgi hl5 hg5 hf5
    by_cases hlt : i < n
    · go_wp2_with fail
      refine (GT.out wr G5.out i hlt).mono ?_
      rintro e w6 ⟨rfl, hg6⟩
      have hl6 : LookS w6 B p h N (allN N M s a i) := HL5.out.later hg6
      have G6 : Below B w0 w6 := G5.out.trans (hg6.mono hBr)
      have K6 := Lib.hid (KeepsBut.below (T0 := 30) hg6)
      have HG6 := Lib.hid (HG5.out.trans (hg6.mono hBr))
      clear hg6
      go_wp2_with fail
      have hb := AL.out i
      refine (LD.out w6 G6 _ hl6 (M (a + 2 + i)) (HX.out i hlt) (by omega) (by omega)).mono ?_
      rintro e w7 ⟨rfl, hl7, hg7, hk7, hf7⟩
      have HL7 := Lib.hid (show LookS w7 B p h N (allN N M s a (i + 1)) from hl7)
      have HG7 := Lib.hid (HG6.out.trans hg7)
      have HF7 := Lib.hid (show ((allN N M s a (i + 1)).2.1.length = s.2.1.length → KeepsBut 30 w w7) from fun hh => by
        have h1 := lead1_len N M (allN N M s a i) (M (a + 2 + i))
        have h2 : (allN N M s a (i + 1)).2.1.length = (lead1 N M (allN N M s a i) (M (a + 2 + i))).2.1.length := rfl
        exact (HF5.out (by omega)).trans (K6.out.trans (hf7 (by omega))))
      clear hl7 hg7 hk7 hf7
      go_wp2_with fail
      go_roundg (n - (i + 1))
      case measure => rw [HGI.out]; omega
      case rel => exact ⟨i + 1, rfl, by omega, by go_num, HL7.out, HG7.out, HF7.out⟩
    · have : i = n := by omega
      subst this
      go_wp2_with fail
      go_end0
      exact ⟨rfl, HL5.out, HG5.out, HF5.out⟩
end Go.Proofs.YtibopjjicfiimaaGreatDoor
namespace Go.Proofs.YtibopjjicfiimaaGreatDoor
open Go.RowKit
set_option linter.unusedVariables false
theorem LookAt.wait {w : World} {B p h N k : Nat} {T : Nat → Bool} {l : List Nat} {q : Bool} (H : LookAt w B p h N T l k q) : ∃ a cap, w.cell? ⟨p, 2, none⟩ = some (.slice a l.length cap) ∧ l.length ≤ cap ∧ cap ≤ maxLen := by
  obtain ⟨b, v, h1, h2, h3, h4, h5, h6⟩ := H
  have z2 := cellO h3 2
  simp at z2
  rcases h6 with ⟨rfl, hn⟩ | ⟨g, cap, cur, rfl, -, -, c1, c2, -⟩
  · exact ⟨none, 0, by rw [hn]; exact z2, by omega, by unfold maxLen; omega⟩
  · exact ⟨_, cap, z2, c1, c2⟩
theorem LookAt.pop {w : World} {B p h N k x : Nat} {T : Nat → Bool} {l : List Nat} {q : Bool} (H : LookAt w B p h N T (l ++ [x]) k q) :
    ∃ g cap, w.cell? ⟨p, 2, none⟩ = some (.slice (some ⟨g, 0, none⟩) (l.length + 1) cap) ∧ l.length + 1 ≤ cap ∧ cap ≤ maxLen ∧ w.cell? ⟨g, l.length, none⟩ = some (.int .u64 (x : Int)) ∧ w.frozen? ⟨p, 2, none⟩ = false ∧ B ≤ p ∧
      LookAt (w.setCell ⟨p, 2, none⟩ (.slice (some ⟨g, 0, none⟩) l.length cap)) B p h N T l k q := by
  obtain ⟨b, v, h1, h2, h3, h4, h5, h6⟩ := H
  have z2 := cellO h3 2
  simp at z2
  have f2 : w.frozen? ⟨p, 2, none⟩ = false := by unfold World.frozen?; rw [h3]; rfl
  rcases h6 with ⟨-, hn⟩ | ⟨g, cap, cur, rfl, hg, hcur, c1, c2, c3, c4⟩
  · simp at hn
  · have hlen : (l ++ [x]).length = l.length + 1 := by simp
    rw [hlen] at z2 c1 c4
    rw [Nat.mul_one] at c3 c4
    have hcl : cur[l.length]? = some (.int .u64 (x : Int)) := by
      have e1 : (cur.toList.take (l.length + 1))[l.length]? = (wordCells (l ++ [x]))[l.length]? := by rw [c4]
      rw [List.getElem?_take] at e1
      simp [wordCells] at e1
      exact e1
    have K := (KeepsBut.refl 135 w).setCell (a := ⟨p, 2, none⟩) (u := .slice (some ⟨g, 0, none⟩) l.length cap) ⟨_, _, h3⟩
    refine ⟨g, cap, z2, c1, c2, ?_, f2, h1, b, _, h1, h2, heap_setCell_same w p 2 _ _ _ h3, h4.keeps K (by decide) (by decide), by simp [wordCells], Or.inr ⟨g, cap, cur, rfl, hg, (K g _ _ _ hcur (by decide)).trans hcur, by omega, c2, by rw [Nat.mul_one]; exact c3, ?_⟩⟩
    · simp [World.cell?, hcur, hcl]
    · rw [Nat.mul_one]
      have e2 : (cur.toList.take (l.length + 1)).take l.length = (wordCells (l ++ [x])).take l.length := by rw [c4]
      rw [List.take_take, Nat.min_eq_left (by omega)] at e2
      rw [e2]; simp [wordCells]
theorem LookAt.loose {w : World} {B p h N k : Nat} {T : Nat → Bool} {l : List Nat} {q : Bool} (H : LookAt w B p h N T l k q) : w.cell? ⟨p, 4, none⟩ = some (.bool q) ∧ p < w.heap.size := by
  obtain ⟨b, v, h1, hp, -, -, -, -, z4, -⟩ := H.parts
  exact ⟨z4, hp⟩
def rootsN (N : Nat) (M : Nat → Nat) (rs : List Nat) : Nat → St
  | 0 => ((fun _ => false), [], 0)
  | i + 1 => lead1 N M (rootsN N M rs i) (rs.getD i 1)
theorem rootsN_len (N : Nat) (M : Nat → Nat) (rs : List Nat) (i : Nat) : (rootsN N M rs i).2.1.length ≤ i ∧ (rootsN N M rs i).2.2 ≤ 1048578 * i := by
  induction i with
  | zero => exact ⟨Nat.le_refl _, Nat.le_refl _⟩
  | succ i ih => have := lead1_len N M (rootsN N M rs i) (rs.getD i 1); unfold rootsN; omega
/-- one step: the last one that waits is gone through -/
def PopStep (N : Nat) (S : Nat → Bool) (M : Nat → Nat) (s t : St) : Prop :=
  s.2.2 ≤ 10000000000000000 ∧ ∃ a l, s.2.1 = l ++ [a * 2] ∧ l.length ≤ 1000000000 ∧ OKF N S M a ∧ t = allM N M (s.1, l, s.2.2) a
set_option maxRecDepth 100000 in
set_option maxHeartbeats 1000000 in
theorem reach_any (B0 h N free : Nat) (S : Nat → Bool) (M : Nat → Nat) (rs : List Nat) (st : Nat → St) (m rb cap : Nat) (w : World) (H0 : HeapAt w B0 h N free S M)
    (hrs : ∀ i, i < rs.length → OKW N S M (rs.getD i 1) ∧ w.cell? ⟨rb, i, none⟩ = some (.int .u64 (rs.getD i 1 : Int))) (hrb : rb < w.heap.size) (hcap : rs.length ≤ cap) (hcap2 : cap ≤ 1000000) (hs0 : st 0 = rootsN N M rs rs.length) (hst : ∀ i, i < m → PopStep N S M (st i) (st (i + 1))) (hend : (st m).2.1 = []) :
    Calls Tryz.prog 30 #[.pointer (some ⟨h, 0, none⟩), .slice (some ⟨rb, 0, none⟩) rs.length cap] w fun e w' => ∃ b, e = .returned (.tuple #[.pointer (some ⟨b, 0, none⟩), .int .i64 ((st m).2.2 : Int), .int .i64 0]) ∧ BitsAt w' w.heap.size b N (st m).1 ∧ Below w.heap.size w w' := by
  obtain ⟨B, hB⟩ : ∃ B, w.heap.size = B := ⟨_, rfl⟩
  have BG := Lib.hid (begin_any B0 h N free S M w H0)
  have LD := Lib.hid (fun p W (hW : Below B w W) t (hL : LookS W B p h N t) x hx h1 h2 => lead_any w B0 B p h N free x S M t W H0 hB hW hL hx h1 h2)
  have AA := Lib.hid (fun p W (hW : Below B w W) t (hL : LookS W B p h N t) a ha h1 h2 => all_any w B0 B p h N free a S M t W H0 hB hW hL ha h1 h2)
  have RS := Lib.hid hrs
  have ST := Lib.hid hst
  have S0 := Lib.hid hs0
  have EN := Lib.hid hend
  have RL := Lib.hid (rootsN_len N M rs)
  rw [hB] at BG hrb ⊢
  generalize hq : rs.length = q at *
  clear hrs hst hs0 hend H0 hB
  go_enter Tryz.func30, Tryz.ntmps30
  go_wp2_with fail
  refine BG.out.mono ?_
  rintro e w1 ⟨p, rfl, hl1, hg1⟩
  have HL1 := Lib.hid (show LookS w1 B p h N (rootsN N M rs 0) from hl1)
  have HG1 := Lib.hid hg1
  clear hl1 hg1
  go_wp2_with fail
  go_loopg [16] q (fun gg s16 wr => ∃ i : Nat, gg = q - i ∧ i ≤ q ∧ s16 = .int .i64 (i : Int) ∧ LookS wr B p h N (rootsN N M rs i) ∧ Below B w wr)
  case atStart => exact ⟨0, rfl, by omega, rfl, HL1.out, HG1.out⟩
  case round =>
    obtain ⟨i, hgi, hi, rfl, hl5, hg5⟩ := hrel
    have HGI := Lib.hid hgi
    have HL5 := Lib.hid hl5
    have HG5 := Lib.hid hg5
    clear hgi
    by_cases hlt : i < q
    · obtain ⟨r1, r2⟩ := RS.out i hlt
      have r3 : wr.cell? ⟨rb, i, none⟩ = some (.int .u64 (rs.getD i 1 : Int)) := (hg5.cell (p := ⟨rb, i, none⟩) hrb).trans r2
      have hE : rootsN N M rs (i + 1) = lead1 N M (rootsN N M rs i) (rs.getD i 1) := rfl
      generalize rs.getD i 1 = x at *
      have HE := Lib.hid hE
      have HR := Lib.hid r1
      have LDi := Lib.hid (LD.out p wr hg5 _ hl5 _ r1 (by have := RL.out i; omega) (by have := RL.out i; omega))
      clear r1 r2 hl5 hg5 hE
      go_wp2_with fail
      refine LDi.out.mono ?_
      rintro e w7 ⟨rfl, hl7, hg7, hk7, hf7⟩
      have HL7 := Lib.hid (show LookS w7 B p h N (rootsN N M rs (i + 1)) from by rw [HE.out]; exact hl7)
      have HG7 := Lib.hid (HG5.out.trans hg7)
      clear hl7 hg7 hk7 hf7
      go_wp2_with fail
      go_roundg (q - (i + 1))
      case measure => rw [HGI.out]; omega
      case rel => exact ⟨i + 1, rfl, by omega, by go_num, HL7.out, HG7.out⟩
    · have : i = q := by omega
      subst this
      have hl6 := hl5
      rw [← S0.out] at hl6
      have HL6 := Lib.hid hl6
      obtain ⟨wa, wcap, z2, -, -⟩ := hl6.wait
      clear hl5 hg5 hl6 HL5
      go_wp2_with fail
      go_loopg [10] m (fun gg s10 wr => ∃ i : Nat, gg = m - i ∧ i ≤ m ∧ s10 = .int .i64 ((st i).2.1.length : Int) ∧ LookS wr B p h N (st i) ∧ Below B w wr)
      case atStart => exact ⟨0, rfl, by omega, rfl, HL6.out, HG5.out⟩
      case round =>
        obtain ⟨j, hgj, hj, rfl, hl8, hg8⟩ := hrel
        have HGJ := Lib.hid hgj
        have HL8 := Lib.hid hl8
        have HG8 := Lib.hid hg8
        obtain ⟨zl, hpl⟩ := hl8.loose
        clear hgj hl8 hg8 HL6 HG5
        by_cases hlt : j < m
        · obtain ⟨hk, a, l, hl, hll, ha, hnext⟩ := ST.out j hlt
          have hl9 := HL8.out
          unfold LookS at hl9
          rw [hl] at hl9
          obtain ⟨g, cp, y2, y3, y4, y5, y6, y7, y8⟩ := hl9.pop
          rw [hl, List.length_append, List.length_singleton]
          have HJ := Lib.hid hnext
          have HA := Lib.hid ha
          have HY8 := Lib.hid (show LookS (wr.setCell ⟨p, 2, none⟩ (.slice (some ⟨g, 0, none⟩) l.length cp)) B p h N ((st j).1, l, (st j).2.2) from y8)
          have HG9 := Lib.hid (show Below B w (wr.setCell ⟨p, 2, none⟩ (.slice (some ⟨g, 0, none⟩) l.length cp)) from HG8.out.setCell y7 _)
          have AAj := Lib.hid (AA.out p _ HG9.out _ HY8.out a ha (by simp only []; omega) hk)
          unfold maxLen at y4
          clear hl9 hnext ha y8 hl
          generalize l.length = ln at *
          go_wp2_with fail
          all_goals (try (exfalso; go_light; omega))
          refine AAj.out.mono ?_
          rintro e w9 ⟨rfl, hl9, hg9, hf9⟩
          rw [← HJ.out] at hl9
          have HL9 := Lib.hid hl9
          have HGA := Lib.hid (HG9.out.trans hg9)
          obtain ⟨wb, wbcap, z9, -, -⟩ := hl9.wait
          clear hl9 hg9 hf9
          go_wp2_with fail
          all_goals (try (exfalso; go_light; omega))
          go_roundg (m - (j + 1))
          case measure => rw [HGJ.out]; omega
          case rel => exact ⟨j + 1, rfl, by omega, rfl, HL9.out, HGA.out⟩
        · have : j = m := by omega
          subst this
          have he := EN.out
          rw [he, List.length_nil]
          obtain ⟨b, v, k1, k2, z0, z1, z2', z3, z4, f4, hb, -⟩ := HL8.out.parts
          have HB := Lib.hid hb
          clear hb he
          go_wp2_with fail
          all_goals (try (exfalso; go_light; omega))
          go_quiet (fail)
          all_goals (try (exfalso; go_light; omega))
          go_wp2_with fail
          refine bodyPost_ret (v := .tuple #[.pointer (some ⟨b, 0, none⟩), .int .i64 ((st j).2.2 : Int), .int .i64 0]) (by simp [results, Tryz.results30, go_sem]) rfl ?_
          exact ⟨b, rfl, HB.out.of_heap rfl, ⟨HG8.out.os, HG8.out.tape, HG8.out.output, HG8.out.size, HG8.out.block⟩⟩
end Go.Proofs.YtibopjjicfiimaaGreatDoor
namespace Go.Proofs.YtibopjjicfiimaaGreatDoor
open Go.RowKit
set_option linter.unusedVariables false
theorem OwnsW.mono {w : World} {B C : Nat} {v : Value} {l : List Nat} (h : OwnsW w B v l) (hc : C ≤ B) : OwnsW w C v l := by
  obtain ⟨h0, h | ⟨g, cap, cur, h1, h2, h3⟩⟩ := h
  · exact ⟨h0, Or.inl h⟩
  · exact ⟨h0, Or.inr ⟨g, cap, cur, h1, by omega, h3⟩⟩
theorem LookAt.row {w : World} {B p h N k : Nat} {T : Nat → Bool} {l : List Nat} {q : Bool} (H : LookAt w B p h N T l k q) (hl : l ≠ []) :
    ∃ g cap, w.cell? ⟨p, 2, none⟩ = some (.slice (some ⟨g, 0, none⟩) l.length cap) ∧ l.length ≤ cap ∧ cap ≤ maxLen ∧ (∃ c, w.heap[g]? = some (.cells c 39 (0, 0))) ∧ (∀ (i x : Nat), l[i]? = some x → w.cell? ⟨g, i, none⟩ = some (.int .u64 (x : Int))) := by
  obtain ⟨b, v, h1, h2, h3, h4, h5, h6⟩ := H
  have z2 := cellO h3 2
  simp at z2
  rcases h6 with ⟨-, hn⟩ | ⟨g, cap, cur, rfl, hg, hcur, c1, c2, c3, c4⟩
  · exact absurd (List.eq_nil_of_length_eq_zero hn) hl
  · refine ⟨g, cap, z2, c1, c2, ⟨cur, hcur⟩, fun i x hx => ?_⟩
    rw [Nat.mul_one] at c4
    obtain ⟨hi, hx2⟩ := List.getElem?_eq_some_iff.1 hx
    have e1 : (cur.toList.take l.length)[i]? = (wordCells l)[i]? := by rw [c4]
    rw [List.getElem?_take] at e1
    simp [wordCells, hi, hx2] at e1
    simp [World.cell?, hcur, e1]
theorem lead1_pre (N : Nat) (M : Nat → Nat) (s : St) (x : Nat) : s.2.1 <+: (lead1 N M s x).2.1 := by
  unfold lead1
  split
  · exact List.prefix_rfl
  · split
    · exact List.prefix_rfl
    · exact List.prefix_append _ _
theorem allN_pre (N : Nat) (M : Nat → Nat) (s : St) (a i : Nat) : s.2.1 <+: (allN N M s a i).2.1 := by
  induction i with
  | zero => exact lead1_pre N M s _
  | succ i ih => exact ih.trans (lead1_pre N M _ _)
theorem seq_pre (N : Nat) (M : Nat → Nat) (st : Nat → St) (A : Nat → Nat) (m : Nat) (h : ∀ t, t < m → st (t + 1) = allM N M (st t) (A t)) (t d : Nat) (hd : t + d ≤ m) : (st t).2.1 <+: (st (t + d)).2.1 := by
  induction d with
  | zero => exact List.prefix_rfl
  | succ d ih =>
    refine (ih (by omega)).trans ?_
    rw [show t + (d + 1) = t + d + 1 by omega, h (t + d) (by omega)]
    exact allN_pre N M _ _ _
end Go.Proofs.YtibopjjicfiimaaGreatDoor
namespace Go.Proofs.YtibopjjicfiimaaGreatDoor
open Go.RowKit
set_option linter.unusedVariables false
set_option maxRecDepth 100000 in
theorem hat_far (h : Value) (x : Nat) (h1 : 33554432 ≤ x) (h2 : x < 18446744073709551616) (w : World) :
    Calls Tryz.prog 78 #[h, .int .u64 (x : Int)] w fun e w' => e = .returned (.tuple #[.int .i64 0, .bool false]) ∧ w' = w := by
  have A := Lib.hid (at_no (x : Int) (by omega) (by omega) (Or.inr (Or.inr (by omega))) w)
  go_enter Tryz.func78, Tryz.ntmps78
  go_wp2_with fail
  refine A.out.mono ?_
  rintro e w1 ⟨rfl, hw⟩
  subst hw
  go_wp2_with fail
  exact bodyPost_ret (v := .tuple #[.int .i64 0, .bool false]) (by simp [results, Tryz.results78, go_sem]) rfl ⟨rfl, rfl⟩
/-- a word that could be a pointer, but is none -/
def BadW (S : Nat → Bool) (x : Nat) : Prop := x ≠ 0 ∧ x % 2 = 0 ∧ x < 18446744073709551616 ∧ (16777216 ≤ x / 2 ∨ S (x / 2) = false)
theorem hat_bad (B h N free x : Nat) (S : Nat → Bool) (M : Nat → Nat) (w : World) (H : HeapAt w B h N free S M) (hx : BadW S x) :
    Calls Tryz.prog 78 #[.pointer (some ⟨h, 0, none⟩), .int .u64 (x : Int)] w fun e w' => ∃ i, e = .returned (.tuple #[.int .i64 i, .bool false]) ∧ Below w.heap.size w w' := by
  obtain ⟨x0, x1, x2, x3⟩ := hx
  by_cases hf : 33554432 ≤ x
  · refine (hat_far _ x hf x2 w).mono ?_
    rintro e w' ⟨rfl, rfl⟩
    exact ⟨_, rfl, Below.refl _ _⟩
  · have hS : S (x / 2) = false := by rcases x3 with h | h; omega; exact h
    have := hat_yes B h N free (x / 2) S M w H (by omega) (by omega)
    rw [show ((x / 2 : Nat) : Int) * 2 = (x : Int) by omega, hS] at this
    refine this.mono ?_
    rintro e w' ⟨rfl, hg⟩
    exact ⟨_, rfl, hg⟩
set_option maxRecDepth 100000 in
theorem hHead_bad (B h N free x : Nat) (S : Nat → Bool) (M : Nat → Nat) (w : World) (H : HeapAt w B h N free S M) (hx : BadW S x) :
    Calls Tryz.prog 56 #[.pointer (some ⟨h, 0, none⟩), .int .u64 (x : Int)] w fun e w' => e = .returned (.tuple #[.agg #[.int .u64 0, .int .i64 0, .int .i64 0, .int .u32 0, .bool false], .int .i64 13]) ∧ Below w.heap.size w w' := by
  have A := Lib.hid (fun W (hW : Below w.heap.size w W) => hat_bad B h N free x S M W (H.later hW) hx)
  have hz0 : Below w.heap.size w (w.alloc (.cells #[.int .u64 0, .int .i64 0, .int .i64 0, .int .u32 0, .bool false] 119)) := (Below.refl _ w).alloc (Nat.le_refl _) _
  have HZ0 := Lib.hid hz0; clear hz0
  clear H
  go_enter Tryz.func56, Tryz.ntmps56
  go_wp2_with fail
  refine (A.out _ HZ0.out).mono ?_
  rintro e w2 ⟨i, rfl, hg1⟩
  have hx2 : w2.heap[w.heap.size]? = some (.cells #[.int .u64 0, .int .i64 0, .int .i64 0, .int .u32 0, .bool false] 119 (0, 0)) := by
    rw [hg1.block w.heap.size (by simp)]; exact heap_alloc_new w _
  have z0 : w2.cell? ⟨w.heap.size, 0, none⟩ = _ := cellO hx2 0
  have z1 : w2.cell? ⟨w.heap.size, 1, none⟩ = _ := cellO hx2 1
  have z2 : w2.cell? ⟨w.heap.size, 2, none⟩ = _ := cellO hx2 2
  have z3 : w2.cell? ⟨w.heap.size, 3, none⟩ = _ := cellO hx2 3
  have z4 : w2.cell? ⟨w.heap.size, 4, none⟩ = _ := cellO hx2 4
  have y : ∀ j, w2.frozen? ⟨w.heap.size, j, none⟩ = false := fun j => by unfold World.frozen?; rw [hx2]; cases j <;> rfl
  simp at z0 z1 z2 z3 z4
  have HG2 := Lib.hid (HZ0.out.trans (hg1.mono (by simp)) : Below w.heap.size w w2)
  clear hg1 hx2
  go_wp2_with fail
  refine bodyPost_ret (v := .tuple #[.agg #[.int .u64 0, .int .i64 0, .int .i64 0, .int .u32 0, .bool false], .int .i64 13]) (by simp [results, Tryz.results56, go_sem, z0, z1, z2, z3, z4]) rfl ⟨rfl, ?_⟩
  exact ((((HG2.out.setCell (Nat.le_refl _) _).setCell (Nat.le_refl _) _).setCell (Nat.le_refl _) _).setCell (Nat.le_refl _) _).setCell (Nat.le_refl _) _
set_option maxRecDepth 100000 in
/-- led to zero: nothing is changed -/
theorem lead_zero (p : Value) (w : World) :
    Calls Tryz.prog 67 #[p, .int .u64 0] w fun e w' => e = .returned (.tuple #[]) ∧ w' = w := by
  go_enter Tryz.func67, Tryz.ntmps67
  go_wp2_with fail
  exact bodyPost_ret (v := .tuple #[]) (by simp [results, Tryz.results67, go_sem]) rfl ⟨rfl, rfl⟩
set_option maxRecDepth 100000 in
set_option maxHeartbeats 1000000 in
/-- led to a word that is no object's: something is loose -/
theorem lead_bad (w0 : World) (B0 B p h N free x : Nat) (S : Nat → Bool) (M : Nat → Nat) (T : Nat → Bool) (l : List Nat) (k : Nat) (q : Bool) (w : World) (H0 : HeapAt w0 B0 h N free S M) (hB : w0.heap.size = B) (hw : Below B w0 w) (L : LookAt w B p h N T l k q) (hx : BadW S x) :
    Calls Tryz.prog 67 #[.pointer (some ⟨p, 0, none⟩), .int .u64 (x : Int)] w fun e w' => e = .returned (.tuple #[]) ∧ LookAt w' B p h N T l k true ∧ Below B w w' ∧ Keeps3 w w' := by
  subst hB
  have HD := Lib.hid (fun W (hW : Below w0.heap.size w0 W) => hHead_bad B0 h N free x S M W (H0.later hW) hx)
  have LL := Lib.hid L
  have HW := Lib.hid hw
  obtain ⟨x0, x1, x2, x3⟩ := hx
  have IS := Lib.hid (fun W => is_any (x : Int) (by omega) (by omega) W)
  rw [show decide ((x : Int) % 2 = 1) = false by simp; omega] at IS
  have z0 : w.cell? ⟨p, 0, none⟩ = some (.pointer (some ⟨h, 0, none⟩)) := by obtain ⟨b, v, h1, h2, z0, -⟩ := L.parts; exact z0
  have q2 : ¬ (x : Int) = 0 := by omega
  clear H0 L x0 x1 x3
  go_enter Tryz.func67, Tryz.ntmps67
  go_wp2_with fail
  refine (IS.out _).mono ?_
  rintro e w1 ⟨rfl, rfl⟩
  go_wp2_with fail
  refine (HD.out _ hw).mono ?_
  rintro e w2 ⟨rfl, hg2⟩
  have L2 := LL.out.later hg2
  obtain ⟨b, v, k1, k2, k3, k4, k5⟩ := L2
  have hp2 : p < w2.heap.size := (Array.getElem?_eq_some_iff.1 k3).1
  have z4 := cellO k3 4
  simp at z4
  have f4 : w2.frozen? ⟨p, 4, none⟩ = false := by unfold World.frozen?; rw [k3]; rfl
  have hBw : w0.heap.size ≤ w.heap.size := HW.out.size
  have K3 := Lib.hid k3; have K4 := Lib.hid k4; have K5 := Lib.hid k5
  have HG2 := Lib.hid (hg2.mono hBw)
  have HK2 := Lib.hid (Keeps3.ofBits (KeepsBut.below (T0 := 30) hg2))
  clear k3 k4 k5 hg2 z0
  go_wp2_with fail
  have hs2 : w0.heap.size ≤ w2.heap.size := Nat.le_trans hBw HG2.out.size
  have KL : KeepsBut 135 w2 (w2.setCell ⟨p, 4, none⟩ (.bool true)) := (KeepsBut.refl 135 w2).setCell ⟨_, _, K3.out⟩
  obtain ⟨w3, hw3⟩ : ∃ w3, w3 = w2.setCell ⟨p, 4, none⟩ (.bool true) := ⟨_, rfl⟩
  have hL3 : LookAt w3 w0.heap.size p h N T l k true := by
    rw [hw3]
    exact ⟨b, v, k1, k2, heap_setCell_same w2 p 4 _ _ _ K3.out, K4.out.keeps KL (by decide) (by decide), K5.out.keeps KL (by decide)⟩
  have hG3 : Below w0.heap.size w w3 := by rw [hw3]; exact HG2.out.setCell k1 _
  rw [← hw3] at KL ⊢
  have hb3 : Below w3.heap.size w3 (w3.alloc (.cells #[.int .u64 0, .int .i64 0, .int .i64 0, .int .u32 0, .bool false] 119)) := (Below.refl _ w3).alloc (Nat.le_refl _) _
  refine bodyPost_ret (v := .tuple #[]) (by simp [results, Tryz.results67, go_sem]) rfl ⟨rfl, hL3.later hb3, hG3.trans (hb3.mono (Nat.le_trans hBw hG3.size)), (HK2.out.trans (Keeps3.ofLook KL)).trans (Keeps3.ofBits (KeepsBut.below (T0 := 30) hb3))⟩
end Go.Proofs.YtibopjjicfiimaaGreatDoor
namespace Go.Proofs.YtibopjjicfiimaaGreatDoor
open Go.RowKit
set_option linter.unusedVariables false
/-- what was met, what waits, how many cells; is something loose? -/
abbrev StQ := St × Bool
def LookQ (w : World) (B p h N : Nat) (s : StQ) : Prop := LookAt w B p h N s.1.1 s.1.2.1 s.1.2.2 s.2
def leadQ (N : Nat) (S : Nat → Bool) (M : Nat → Nat) (s : StQ) (x : Nat) : StQ :=
  if x = 0 ∨ x % 2 = 1 then s else if x / 2 < 16777216 ∧ S (x / 2) = true then (lead1 N M s.1 x, s.2) else (s.1, true)
/-- every object that begins is one, and lies within -/
theorem leadQ_len (N : Nat) (S : Nat → Bool) (M : Nat → Nat) (s : StQ) (x : Nat) : (leadQ N S M s x).1.2.1.length ≤ s.1.2.1.length + 1 ∧ (leadQ N S M s x).1.2.2 ≤ s.1.2.2 + 1048578 := by
  unfold leadQ
  split
  · exact ⟨by omega, by omega⟩
  · split
    · exact (lead1_len N M s.1 x).2
    · exact ⟨by show s.1.2.1.length ≤ _; omega, by show s.1.2.2 ≤ _; omega⟩
theorem lead_gen (w0 : World) (B0 B p h N free x : Nat) (S : Nat → Bool) (M : Nat → Nat) (s : StQ) (w : World) (H0 : HeapAt w0 B0 h N free S M) (hB : w0.heap.size = B) (hw : Below B w0 w) (L : LookQ w B p h N s)
    (hG : GoodH N S M) (hx : x < 18446744073709551616) (hl : s.1.2.1.length ≤ 1000000000000) (hk : s.1.2.2 ≤ 1000000000000000000) :
    Calls Tryz.prog 67 #[.pointer (some ⟨p, 0, none⟩), .int .u64 (x : Int)] w fun e w' => e = .returned (.tuple #[]) ∧ LookQ w' B p h N (leadQ N S M s x) ∧ Below B w w' ∧ Keeps3 w w' := by
  by_cases h0 : x = 0
  · subst h0
    rw [show leadQ N S M s 0 = s by unfold leadQ; rw [if_pos (Or.inl rfl)]]
    refine (lead_zero _ w).mono ?_
    rintro e w' ⟨rfl, rfl⟩
    exact ⟨rfl, L, Below.refl _ _, Keeps3.ofBits (KeepsBut.refl _ _)⟩
  · by_cases ho : x % 2 = 1
    · rw [show leadQ N S M s x = s by unfold leadQ; rw [if_pos (Or.inr ho)]]
      refine (lead_small _ x hx ho w).mono ?_
      rintro e w' ⟨rfl, rfl⟩
      exact ⟨rfl, L, Below.refl _ _, Keeps3.ofBits (KeepsBut.refl _ _)⟩
    · by_cases hobj : x / 2 < 16777216 ∧ S (x / 2) = true
      · obtain ⟨a, rfl⟩ : ∃ a, x = a * 2 := ⟨x / 2, by omega⟩
        have e2 : a * 2 / 2 = a := by omega
        rw [show leadQ N S M s (a * 2) = (lead1 N M s.1 (a * 2), s.2) by unfold leadQ; rw [if_neg (by omega), if_pos hobj]]
        rw [e2] at hobj
        obtain ⟨⟨a0, ha, hS', hok⟩, -⟩ := hG a hobj.2
        rw [show ((a * 2 : Nat) : Int) = (a : Int) * 2 by omega]
        by_cases hT : s.1.1 a = true
        · rw [show lead1 N M s.1 (a * 2) = s.1 by unfold lead1; rw [if_neg (by omega), e2, if_pos hT]]
          refine (lead_old w0 B0 B p h N free a S M s.1.1 s.1.2.1 s.1.2.2 s.2 w H0 hB hw L a0 ha hS' hok hT).mono ?_
          rintro e w' ⟨rfl, h1, h2, h3⟩
          exact ⟨rfl, h1, h2, Keeps3.ofBits h3⟩
        · rw [show lead1 N M s.1 (a * 2) = (setS N s.1.1 (a : Int) true, s.1.2.1 ++ [a * 2], s.1.2.2 + 2 + cz M a) by unfold lead1; rw [if_neg (by omega), e2, if_neg hT]]
          refine (lead_new w0 B0 B p h N free a S M s.1.1 s.1.2.1 s.1.2.2 s.2 w H0 hB hw L a0 ha hS' hok (by simpa using hT) hl hk).mono ?_
          rintro e w' ⟨rfl, h1, h2, h3⟩
          exact ⟨rfl, h1, h2, h3⟩
      · rw [show leadQ N S M s x = (s.1, true) by unfold leadQ; rw [if_neg (by omega), if_neg hobj]]
        have hbad : BadW S x := by
          refine ⟨h0, by omega, hx, ?_⟩
          by_cases h1 : x / 2 < 16777216
          · right
            cases hs : S (x / 2) with
            | true => exact absurd ⟨h1, hs⟩ hobj
            | false => rfl
          · left; omega
        exact lead_bad w0 B0 B p h N free x S M s.1.1 s.1.2.1 s.1.2.2 s.2 w H0 hB hw L hbad
def allNQ (N : Nat) (S : Nat → Bool) (M : Nat → Nat) (s : StQ) (a : Nat) : Nat → StQ
  | 0 => leadQ N S M s (M a)
  | i + 1 => leadQ N S M (allNQ N S M s a i) (M (a + 2 + i))
theorem allNQ_len (N : Nat) (S : Nat → Bool) (M : Nat → Nat) (s : StQ) (a i : Nat) : (allNQ N S M s a i).1.2.1.length ≤ s.1.2.1.length + 1 + i ∧ (allNQ N S M s a i).1.2.2 ≤ s.1.2.2 + 1048578 * (i + 1) := by
  induction i with
  | zero => have := leadQ_len N S M s (M a); unfold allNQ; omega
  | succ i ih => have := leadQ_len N S M (allNQ N S M s a i) (M (a + 2 + i)); unfold allNQ; omega
def allQ (N : Nat) (S : Nat → Bool) (M : Nat → Nat) (s : StQ) (a : Nat) : StQ := allNQ N S M s a (if hK (M (a + 1)) = 2 then 0 else (hS (M (a + 1))).toNat)
set_option maxRecDepth 100000 in
set_option maxHeartbeats 1000000 in
theorem all_gen (w0 : World) (B0 B p h N free a : Nat) (S : Nat → Bool) (M : Nat → Nat) (s : StQ) (w : World) (H0 : HeapAt w0 B0 h N free S M) (hB : w0.heap.size = B) (hw : Below B w0 w) (L : LookQ w B p h N s)
    (hG : GoodH N S M) (hSa : S a = true) (hl : s.1.2.1.length ≤ 10000000000) (hk : s.1.2.2 ≤ 10000000000000000) :
    Calls Tryz.prog 68 #[.pointer (some ⟨p, 0, none⟩), .int .u64 (a * 2 : Int)] w fun e w' => e = .returned (.tuple #[]) ∧ LookQ w' B p h N (allQ N S M s a) ∧ Below B w w' := by
  obtain ⟨⟨a0, a1, a2, hok⟩, hk2⟩ := hG a hSa
  have hN : N ≤ 16777216 := by obtain ⟨g, s, -, -, h3, -⟩ := H0; exact h3
  have hMb : ∀ i, M i < 18446744073709551616 := by obtain ⟨g, s, -, -, -, -, -, -, -, h7, -⟩ := H0; exact h7
  unfold allQ
  obtain ⟨n, hn⟩ : ∃ n : Nat, hS (M (a + 1)) = (n : Int) := ⟨(hS (M (a + 1))).toNat, by unfold hS; omega⟩
  have hn2 : n ≤ 1048576 := by have := hok.2.2.1; omega
  have HD := Lib.hid (fun W (hW : Below B w0 W) => hHead_yes B0 h N free a S M W (H0.later (hB ▸ hW)) a0 a1 a2 hok)
  have GT := Lib.hid (fun W (hW : Below B w0 W) (hr : hK (M (a + 1)) ≠ 2) (i : Nat) (hi : i < n) => hget_yes B0 h N free a i S M W (H0.later (hB ▸ hW)) a0 (by have := hk2 hr; rw [hn] at this; omega) a2 hok hr (by rw [hn]; omega))
  have LD := Lib.hid (fun W (hW : Below B w0 W) t (hL : LookQ W B p h N t) x hx h1 h2 => lead_gen w0 B0 B p h N free x S M t W H0 hB hW hL hG hx h1 h2)
  rw [hn, Int.toNat_natCast]
  rw [hn] at HD
  have MB := Lib.hid hMb
  have LL := Lib.hid L
  have HW := Lib.hid hw
  have z0 : w.cell? ⟨p, 0, none⟩ = some (.pointer (some ⟨h, 0, none⟩)) := by obtain ⟨b, v, h1, h2, z0, -⟩ := L.parts; exact z0
  have AL := Lib.hid (fun i => allNQ_len N S M s a i)
  have hB0 : B ≤ w0.heap.size := by omega
  have hBs : B ≤ w.heap.size := Nat.le_trans hB0 hw.size
  generalize hK (M (a + 1)) = vk at *
  generalize hH (M (a + 1)) = vh at *
  generalize hM (M (a + 1)) = vm at *
  have hk3 : (vk = 2 ∧ (vk == 2) = true) ∨ (vk ≠ 2 ∧ (vk == 2) = false) := by
    by_cases h2 : vk = 2
    · exact Or.inl ⟨h2, by simpa using h2⟩
    · exact Or.inr ⟨h2, by simpa using h2⟩
  clear hok a2 H0 L hB hn hMb hG hk2 hSa
  go_enter Tryz.func68, Tryz.ntmps68
  go_wp2_with fail
  refine (HD.out _ hw).mono ?_
  rintro e w2 ⟨rfl, hg2⟩
  go_wp2_with fail
  obtain ⟨w3, hw3⟩ : ∃ w3, w3 = w2.alloc (.cells #[.int .u64 (M a : Int), .int .i64 vk, .int .i64 (n : Int), .int .u32 vh, .bool vm] 119) := ⟨_, rfl⟩
  have hg3 : Below w.heap.size w w3 := by rw [hw3]; exact hg2.alloc hg2.size _
  rw [← hw3]
  have hx3 : w3.heap[w2.heap.size]? = some (.cells #[.int .u64 (M a : Int), .int .i64 vk, .int .i64 (n : Int), .int .u32 vh, .bool vm] 119 (0, 0)) := by rw [hw3]; exact heap_alloc_new w2 _
  clear hw3
  have L3 : LookQ w3 B p h N s := LL.out.later hg3
  have G3 : Below B w0 w3 := hw.trans (hg3.mono hBs)
  have HG3 := Lib.hid (hg3.mono hBs)
  generalize w2.heap.size = x at *
  refine (LD.out w3 G3 s L3 (M a) (MB.out a) (by omega) (by omega)).mono ?_
  rintro e w4 ⟨rfl, hl4, hg4, hk4⟩
  have hx4 := (hk4 x _ _ _ hx3 (by decide) (by decide) (by decide)).trans hx3
  have x1 := cellO hx4 1
  have x2 := cellO hx4 2
  simp at x1 x2
  have HL4 := Lib.hid (show LookQ w4 B p h N (allNQ N S M s a 0) from hl4)
  have HG4 := Lib.hid (HG3.out.trans hg4)
  clear hl4 hg4 hk4 hx4 hx3 hg3 L3 HG3 LL hg2 z0
  rcases hk3 with ⟨hv, hk3⟩ | ⟨hv, hk3⟩
  · subst hv
    clear hk3
    go_wp2_with fail
    exact bodyPost_ret (v := .tuple #[]) (by simp [results, Tryz.results68, go_sem]) rfl ⟨rfl, HL4.out, HG4.out⟩
  · have HV := Lib.hid hv
    clear hv
    go_wp2_with fail
    all_goals (try (exfalso; go_light; omega))
    go_loopg [27] n (fun gg s27 wr => ∃ i : Nat, gg = n - i ∧ i ≤ n ∧ s27 = .int .i64 (i : Int) ∧ LookQ wr B p h N (allNQ N S M s a i) ∧ Below B w wr)
    case atStart => exact ⟨0, rfl, by omega, rfl, HL4.out, HG4.out⟩
    case round =>
      obtain ⟨i, hgi, hi, rfl, hl5, hg5⟩ := hrel
      have HGI := Lib.hid hgi
      have HL5 := Lib.hid hl5
      have HG5 := Lib.hid hg5
      have z0 : wr.cell? ⟨p, 0, none⟩ = some (.pointer (some ⟨h, 0, none⟩)) := by obtain ⟨b, v, h1, h2, z0, -⟩ := hl5.parts; exact z0
      have G5 := Lib.hid (HW.out.trans hg5)
      have hBr : B ≤ wr.heap.size := Nat.le_trans hBs hg5.size
      clear hgi hl5 hg5
      by_cases hlt : i < n
      · go_wp2_with fail
        refine (GT.out wr G5.out HV.out i hlt).mono ?_
        rintro e w6 ⟨rfl, hg6⟩
        have hl6 : LookQ w6 B p h N (allNQ N S M s a i) := HL5.out.later hg6
        have G6 : Below B w0 w6 := G5.out.trans (hg6.mono hBr)
        have HG6 := Lib.hid (HG5.out.trans (hg6.mono hBr))
        clear hg6
        go_wp2_with fail
        have hb := AL.out i
        refine (LD.out w6 G6 _ hl6 (M (a + 2 + i)) (MB.out _) (by omega) (by omega)).mono ?_
        rintro e w7 ⟨rfl, hl7, hg7, hk7⟩
        have HL7 := Lib.hid (show LookQ w7 B p h N (allNQ N S M s a (i + 1)) from hl7)
        have HG7 := Lib.hid (HG6.out.trans hg7)
        clear hl7 hg7 hk7
        go_wp2_with fail
        go_roundg (n - (i + 1))
        case measure => rw [HGI.out]; omega
        case rel => exact ⟨i + 1, rfl, by omega, by go_num, HL7.out, HG7.out⟩
      · have : i = n := by omega
        subst this
        go_wp2_with fail
        go_end0
        exact ⟨rfl, HL5.out, HG5.out⟩
def rootsQ (N : Nat) (S : Nat → Bool) (M : Nat → Nat) (rs : List Nat) : Nat → StQ
  | 0 => (((fun _ => false), [], 0), false)
  | i + 1 => leadQ N S M (rootsQ N S M rs i) (rs.getD i 1)
theorem rootsQ_len (N : Nat) (S : Nat → Bool) (M : Nat → Nat) (rs : List Nat) (i : Nat) : (rootsQ N S M rs i).1.2.1.length ≤ i ∧ (rootsQ N S M rs i).1.2.2 ≤ 1048578 * i := by
  induction i with
  | zero => exact ⟨Nat.le_refl _, Nat.le_refl _⟩
  | succ i ih => have := leadQ_len N S M (rootsQ N S M rs i) (rs.getD i 1); unfold rootsQ; omega
set_option maxRecDepth 100000 in
set_option maxHeartbeats 1000000 in
/-- all that is led to, whatever it is: P: what holds between two steps; mu: it grows less -/
theorem reach_gen (B0 h N free : Nat) (S : Nat → Bool) (M : Nat → Nat) (rs : List Nat) (P : StQ → Prop) (mu : StQ → Nat) (a0 : Option Addr) (cap : Nat) (w : World) (H0 : HeapAt w B0 h N free S M) (hG : GoodH N S M)
    (hrs : ∀ i, i < rs.length → rs.getD i 1 < 18446744073709551616 ∧ ∃ rb ro, a0 = some ⟨rb, ro, none⟩ ∧ rb < w.heap.size ∧ w.cell? ⟨rb, ro + i, none⟩ = some (.int .u64 (rs.getD i 1 : Int))) (hcap : rs.length ≤ cap) (hcap2 : rs.length ≤ 1000000) (hcap3 : cap ≤ maxLen)
    (hP0 : P (rootsQ N S M rs rs.length)) (hPb : ∀ s, P s → s.1.2.1.length ≤ 1000000000 ∧ s.1.2.2 ≤ 10000000000000000)
    (hPs : ∀ T l k x, P ((T, l ++ [x], k), false) → ∃ a, x = a * 2 ∧ S a = true ∧ P (allQ N S M ((T, l, k), false) a) ∧ mu (allQ N S M ((T, l, k), false) a) < mu ((T, l ++ [x], k), false)) :
    Calls Tryz.prog 30 #[.pointer (some ⟨h, 0, none⟩), .slice a0 rs.length cap] w fun e w' => ∃ s : StQ, P s ∧ ((s.2 = true ∧ e = .returned (.tuple #[.pointer none, .int .i64 0, .int .i64 13])) ∨ (s.2 = false ∧ s.1.2.1 = [] ∧ ∃ b, e = .returned (.tuple #[.pointer (some ⟨b, 0, none⟩), .int .i64 (s.1.2.2 : Int), .int .i64 0]) ∧ BitsAt w' w.heap.size b N s.1.1)) ∧ Below w.heap.size w w' := by
  obtain ⟨B, hB⟩ : ∃ B, w.heap.size = B := ⟨_, rfl⟩
  have BG := Lib.hid (begin_any B0 h N free S M w H0)
  have LD := Lib.hid (fun p W (hW : Below B w W) t (hL : LookQ W B p h N t) x hx h1 h2 => lead_gen w B0 B p h N free x S M t W H0 hB hW hL hG hx h1 h2)
  have AA := Lib.hid (fun p W (hW : Below B w W) t (hL : LookQ W B p h N t) a ha h1 h2 => all_gen w B0 B p h N free a S M t W H0 hB hW hL hG ha h1 h2)
  have RS := Lib.hid (show ∀ W, Below B w W → ∀ i, i < rs.length → rs.getD i 1 < 18446744073709551616 ∧ ∃ rb ro, a0 = some ⟨rb, ro, none⟩ ∧ W.cell? ⟨rb, ro + i, none⟩ = some (.int .u64 (rs.getD i 1 : Int)) from fun W hW i hi => by
    obtain ⟨h1, rb, ro, h2, h3, h4⟩ := hrs i hi
    exact ⟨h1, rb, ro, h2, (hW.cell (p := ⟨rb, ro + i, none⟩) (show rb < B by omega)).trans h4⟩)
  have PS := Lib.hid hPs
  have PB := Lib.hid hPb
  have P0 := Lib.hid hP0
  have RL := Lib.hid (rootsQ_len N S M rs)
  unfold maxLen at hcap3
  rw [hB] at BG ⊢
  generalize hq : rs.length = q at *
  have hq2 := Lib.hid hq
  clear hq hrs hPs hPb hP0 H0 hB hG
  go_enter Tryz.func30, Tryz.ntmps30
  go_wp2_with fail
  refine BG.out.mono ?_
  rintro e w1 ⟨p, rfl, hl1, hg1⟩
  have HL1 := Lib.hid (show LookQ w1 B p h N (rootsQ N S M rs 0) from hl1)
  have HG1 := Lib.hid hg1
  clear hl1 hg1
  go_wp2_with fail
  go_loopg [16] q (fun gg s16 wr => ∃ i : Nat, gg = q - i ∧ i ≤ q ∧ s16 = .int .i64 (i : Int) ∧ LookQ wr B p h N (rootsQ N S M rs i) ∧ Below B w wr)
  case atStart => exact ⟨0, rfl, by omega, rfl, HL1.out, HG1.out⟩
  case round =>
    obtain ⟨i, hgi, hi, rfl, hl5, hg5⟩ := hrel
    have HGI := Lib.hid hgi
    have HL5 := Lib.hid hl5
    have HG5 := Lib.hid hg5
    clear hgi
    by_cases hlt : i < q
    · obtain ⟨r1, rb, ro, rfl, r3⟩ := RS.out wr hg5 i hlt
      have hE : rootsQ N S M rs (i + 1) = leadQ N S M (rootsQ N S M rs i) (rs.getD i 1) := rfl
      generalize rs.getD i 1 = x at *
      have HE := Lib.hid hE
      have LDi := Lib.hid (LD.out p wr hg5 _ hl5 _ r1 (by have := RL.out i; omega) (by have := RL.out i; omega))
      clear r1 hl5 hg5 hE
      go_wp2_with fail
      refine LDi.out.mono ?_
      rintro e w7 ⟨rfl, hl7, hg7, hk7⟩
      have HL7 := Lib.hid (show LookQ w7 B p h N (rootsQ N S M rs (i + 1)) from by rw [HE.out]; exact hl7)
      have HG7 := Lib.hid (HG5.out.trans hg7)
      clear hl7 hg7 hk7
      go_wp2_with fail
      go_roundg (q - (i + 1))
      case measure => rw [HGI.out]; omega
      case rel => exact ⟨i + 1, rfl, by omega, by go_num, HL7.out, HG7.out⟩
    · have hiq : i = q := by omega
      have hl6 := hl5
      rw [hiq] at hl6
      have HL6 := Lib.hid hl6
      obtain ⟨wa, wcap, z2, -, -⟩ := hl6.wait
      clear hl5 hg5 hl6 HL5 hiq
      go_wp2_with fail
      go_loopg [10] (mu (rootsQ N S M rs q)) (fun gg s10 wr => ∃ s : StQ, gg = mu s ∧ s10 = .int .i64 (s.1.2.1.length : Int) ∧ LookQ wr B p h N s ∧ P s ∧ Below B w wr)
      case atStart => exact ⟨_, rfl, rfl, HL6.out, P0.out, HG5.out⟩
      case round =>
        obtain ⟨⟨⟨T, l, k⟩, loose⟩, hgj, rfl, hl8, hp8, hg8⟩ := hrel
        have HGJ := Lib.hid hgj
        have HL8 := Lib.hid hl8
        have HG8 := Lib.hid hg8
        have HP8 := Lib.hid hp8
        obtain ⟨zl, hpl⟩ := hl8.loose
        obtain ⟨hb1, hb2⟩ := PB.out _ hp8
        dsimp only at *
        clear hgj hg8 HL6 HG5 hp8
        cases loose with
        | true =>
          clear hb1 hb2
          rcases Nat.eq_zero_or_pos l.length with h0 | h0
          · rw [h0]
            go_wp2_with fail
            all_goals (try (exfalso; go_light; omega))
            refine bodyPost_ret (v := .tuple #[.pointer none, .int .i64 0, .int .i64 13]) (by simp [results, Tryz.results30, go_sem]) rfl ⟨_, HP8.out, Or.inl ⟨rfl, rfl⟩, HG8.out⟩
          · go_wp2_with fail
            all_goals (try (exfalso; go_light; omega))
            refine bodyPost_ret (v := .tuple #[.pointer none, .int .i64 0, .int .i64 13]) (by simp [results, Tryz.results30, go_sem]) rfl ⟨_, HP8.out, Or.inl ⟨rfl, rfl⟩, HG8.out⟩
        | false =>
          rcases List.eq_nil_or_concat l with hl0 | ⟨l0, x, hl0⟩
          · subst hl0
            obtain ⟨b, v, k1, k2, z0, z1, z2', z3, z4, f4, hb, -⟩ := HL8.out.parts
            have HB := Lib.hid hb
            clear hb hb1 hb2
            rw [List.length_nil]
            go_wp2_with fail
            all_goals (try (exfalso; go_light; omega))
            go_quiet (fail)
            all_goals (try (exfalso; go_light; omega))
            go_wp2_with fail
            refine bodyPost_ret (v := .tuple #[.pointer (some ⟨b, 0, none⟩), .int .i64 (k : Int), .int .i64 0]) (by simp [results, Tryz.results30, go_sem]) rfl ⟨_, HP8.out, Or.inr ⟨rfl, rfl, b, rfl, HB.out.of_heap rfl⟩, ⟨HG8.out.os, HG8.out.tape, HG8.out.output, HG8.out.size, HG8.out.block⟩⟩
          · rw [List.concat_eq_append] at hl0
            subst hl0
            obtain ⟨a, rfl, hSa, hPn, hmu⟩ := PS.out T l0 k x HP8.out
            obtain ⟨g, cp, y2, y3, y4, y5, y6, y7, y8⟩ := LookAt.pop HL8.out
            rw [List.length_append, List.length_singleton] at hb1 ⊢
            rw [show ((a * 2 : Nat) : Int) = (a : Int) * 2 by omega] at y5
            have HPN := Lib.hid hPn
            have HMU := Lib.hid hmu
            have HY8 := Lib.hid (show LookQ (wr.setCell ⟨p, 2, none⟩ (.slice (some ⟨g, 0, none⟩) l0.length cp)) B p h N ((T, l0, k), false) from y8)
            have HG9 := Lib.hid (show Below B w (wr.setCell ⟨p, 2, none⟩ (.slice (some ⟨g, 0, none⟩) l0.length cp)) from HG8.out.setCell y7 _)
            have AAj := Lib.hid (AA.out p _ HG9.out _ HY8.out a hSa (by simp only []; omega) (by simp only []; omega))
            unfold maxLen at y4
            clear hSa hPn hmu y8
            generalize l0.length = ln at *
            go_wp2_with fail
            all_goals (try (exfalso; go_light; omega))
            refine AAj.out.mono ?_
            rintro e w9 ⟨rfl, hl9, hg9⟩
            have HL9 := Lib.hid hl9
            have HGA := Lib.hid (HG9.out.trans hg9)
            obtain ⟨wb, wbcap, z9, -, -⟩ := hl9.wait
            clear hl9 hg9
            go_wp2_with fail
            all_goals (try (exfalso; go_light; omega))
            go_roundg (mu (allQ N S M ((T, l0, k), false) a))
            case measure => rw [HGJ.out]; exact HMU.out
            case rel => exact ⟨_, rfl, rfl, HL9.out, HPN.out, HGA.out⟩
end Go.Proofs.YtibopjjicfiimaaGreatDoor
namespace Go.Proofs.YtibopjjicfiimaaGreatDoor
open Go.RowKit
set_option linter.unusedVariables false
/-- an object's words that lead on -/
def wordsA (M : Nat → Nat) (a : Nat) : List Nat := M a :: (if hK (M (a + 1)) = 2 then [] else (List.range (hS (M (a + 1))).toNat).map fun i => M (a + 2 + i))
/-- a word that the roots lead to -/
inductive Wd (S : Nat → Bool) (M : Nat → Nat) (R : List Nat) : Nat → Prop
  | root {x : Nat} : x ∈ R → Wd S M R x
  | step {a y : Nat} : Wd S M R (a * 2) → S a = true → y ∈ wordsA M a → Wd S M R y
def Bad (S : Nat → Bool) (M : Nat → Nat) (R : List Nat) : Prop := ∃ y, Wd S M R y ∧ y ≠ 0 ∧ y % 2 = 0 ∧ ¬ (y / 2 < 16777216 ∧ S (y / 2) = true)
def Res (T : Nat → Bool) (x : Nat) : Prop := x = 0 ∨ x % 2 = 1 ∨ T (x / 2) = true
/-- the cells of all that were met -/
def ksum (M : Nat → Nat) (T : Nat → Bool) : Nat → Nat
  | 0 => 0
  | n + 1 => ksum M T n + if T n = true then 2 + cz M n else 0
theorem ksum_congr {M : Nat → Nat} {T T' : Nat → Bool} {n : Nat} (h : ∀ j, j < n → T j = T' j) : ksum M T n = ksum M T' n := by
  induction n with
  | zero => rfl
  | succ n ih => unfold ksum; rw [ih (fun j hj => h j (by omega)), h n (by omega)]
theorem ksum_set (N a n : Nat) (M : Nat → Nat) (T : Nat → Bool) (h : a < N) (hT : T a = false) : ksum M (setS N T (a : Int) true) n = ksum M T n + if a < n then 2 + cz M a else 0 := by
  induction n with
  | zero => rfl
  | succ n ih =>
    unfold ksum
    rw [ih]
    by_cases hn : n = a
    · subst hn
      rw [if_neg (by omega), if_pos ((setT N n T h n).2 (Or.inl rfl)), if_neg (by simp [hT]), if_pos (by omega)]
    · have e : (setS N T (a : Int) true n = true) = (T n = true) := by
        apply propext; rw [setT N a T h n]; simp [hn]
      simp only [e]
      by_cases hlt : a < n
      · rw [if_pos hlt, if_pos (show a < n + 1 by omega)]; omega
      · rw [if_neg hlt, if_neg (show ¬ a < n + 1 by omega)]; omega
theorem ksum_mono {M : Nat → Nat} {T T' : Nat → Bool} (h : ∀ j, T j = true → T' j = true) (n : Nat) : ksum M T n ≤ ksum M T' n := by
  induction n with
  | zero => exact Nat.le_refl _
  | succ n ih =>
    unfold ksum
    by_cases ht : T n = true
    · rw [if_pos ht, if_pos (h n ht)]; omega
    · rw [if_neg ht]; omega
theorem ksum_bd (M : Nat → Nat) (T : Nat → Bool) (n : Nat) : ksum M T n ≤ 1048578 * n := by
  induction n with
  | zero => exact Nat.le_refl _
  | succ n ih => unfold ksum; have := cz_bd M n; split <;> omega
theorem cntset (N a : Nat) (T : Nat → Bool) (h : a < N) (hT : T a = false) : cnt (setS N T (a : Int) true) N = cnt T N + 1 := by
  have key : ∀ n, cnt (setS N T (a : Int) true) n = cnt T n + if a < n then 1 else 0 := by
    intro n
    induction n with
    | zero => rfl
    | succ n ih =>
      unfold cnt
      rw [ih]
      by_cases hn : n = a
      · subst hn
        rw [if_neg (by omega), if_pos (by omega), (setT N n T h n).2 (Or.inl rfl), hT]; simp
      · have e : setS N T (a : Int) true n = T n := by
          cases hb : T n with
          | true => exact (setT N a T h n).2 (Or.inr hb)
          | false =>
            cases hc : setS N T (a : Int) true n with
            | false => rfl
            | true => rcases (setT N a T h n).1 hc with h1 | h1; exact absurd h1 hn; rw [hb] at h1; cases h1
        rw [e]
        by_cases hlt : a < n
        · rw [if_pos hlt, if_pos (show a < n + 1 by omega)]; omega
        · rw [if_neg hlt, if_neg (show ¬ a < n + 1 by omega)]; omega
  rw [key N, if_pos h]
theorem Res.mono {T T' : Nat → Bool} {x : Nat} (h : Res T x) (hm : ∀ j, T j = true → T' j = true) : Res T' x := by
  rcases h with h | h | h
  · exact Or.inl h
  · exact Or.inr (Or.inl h)
  · exact Or.inr (Or.inr (hm _ h))
structure Inv (N : Nat) (S : Nat → Bool) (M : Nat → Nat) (R : List Nat) (s : StQ) (ex : Nat) : Prop where
  met : ∀ a, s.1.1 a = true → Wd S M R (a * 2) ∧ S a = true
  wait : ∀ x, x ∈ s.1.2.1 → ∃ a, x = a * 2 ∧ s.1.1 a = true
  loose : s.2 = true → Bad S M R
  done : s.2 = false → ∀ a, s.1.1 a = true → a ≠ ex → a * 2 ∈ s.1.2.1 ∨ ∀ y, y ∈ wordsA M a → Res s.1.1 y
  sum : s.1.2.2 = ksum M s.1.1 N
  len : s.1.2.1.length ≤ cnt s.1.1 N
def muQ (N : Nat) (s : StQ) : Nat := 2 * (N - cnt s.1.1 N) + s.1.2.1.length
theorem leadQ_inv {N : Nat} {S : Nat → Bool} {M : Nat → Nat} {R : List Nat} {s : StQ} {ex x : Nat} (hG : GoodH N S M) (h : Inv N S M R s ex) (hx : Wd S M R x) :
    Inv N S M R (leadQ N S M s x) ex ∧ (∀ j, s.1.1 j = true → (leadQ N S M s x).1.1 j = true) ∧ ((leadQ N S M s x).2 = false → s.2 = false ∧ Res (leadQ N S M s x).1.1 x) ∧ muQ N (leadQ N S M s x) ≤ muQ N s := by
  unfold leadQ
  by_cases h0 : x = 0 ∨ x % 2 = 1
  · rw [if_pos h0]
    exact ⟨h, fun _ hj => hj, fun hq => ⟨hq, by rcases h0 with h0 | h0; exact Or.inl h0; exact Or.inr (Or.inl h0)⟩, Nat.le_refl _⟩
  · rw [if_neg h0]
    by_cases hobj : x / 2 < 16777216 ∧ S (x / 2) = true
    · rw [if_pos hobj]
      obtain ⟨a, rfl⟩ : ∃ a, x = a * 2 := ⟨x / 2, by omega⟩
      have e2 : a * 2 / 2 = a := by omega
      rw [e2] at hobj
      have haN : a < N := by have := (hG a hobj.2).1.2.1; omega
      by_cases hT : s.1.1 a = true
      · have e : lead1 N M s.1 (a * 2) = s.1 := by unfold lead1; rw [if_neg (by omega), e2, if_pos hT]
        rw [e]
        exact ⟨h, fun _ hj => hj, fun hq => ⟨hq, Or.inr (Or.inr (by rw [e2]; exact hT))⟩, Nat.le_refl _⟩
      · have hT' : s.1.1 a = false := by simpa using hT
        have e : lead1 N M s.1 (a * 2) = (setS N s.1.1 (a : Int) true, s.1.2.1 ++ [a * 2], s.1.2.2 + 2 + cz M a) := by unfold lead1; rw [if_neg (by omega), e2, if_neg hT]
        rw [e]
        have hmono : ∀ j, s.1.1 j = true → setS N s.1.1 (a : Int) true j = true := fun j hj => (setT N a _ haN j).2 (Or.inr hj)
        refine ⟨⟨fun j hj => ?_, fun y hy => ?_, h.loose, fun hq j hj hne => ?_, ?_, ?_⟩, hmono, fun hq => ⟨hq, Or.inr (Or.inr (by rw [e2]; exact (setT N a _ haN a).2 (Or.inl rfl)))⟩, ?_⟩
        · rcases (setT N a _ haN j).1 hj with rfl | hj
          · exact ⟨hx, hobj.2⟩
          · exact h.met j hj
        · rcases List.mem_append.1 hy with hy | hy
          · obtain ⟨c, hc, ht⟩ := h.wait y hy
            exact ⟨c, hc, hmono c ht⟩
          · exact ⟨a, by simpa using hy, (setT N a _ haN a).2 (Or.inl rfl)⟩
        · rcases (setT N a _ haN j).1 hj with rfl | hj
          · exact Or.inl (List.mem_append.2 (Or.inr (by simp)))
          · rcases h.done hq j hj hne with h1 | h1
            · exact Or.inl (List.mem_append.2 (Or.inl h1))
            · exact Or.inr fun y hy => (h1 y hy).mono hmono
        · show s.1.2.2 + 2 + cz M a = ksum M (setS N s.1.1 (a : Int) true) N
          rw [ksum_set N a N M s.1.1 haN hT', if_pos haN, ← h.sum]; omega
        · show (s.1.2.1 ++ [a * 2]).length ≤ cnt (setS N s.1.1 (a : Int) true) N
          rw [cntset N a s.1.1 haN hT', List.length_append, List.length_singleton]
          have := h.len; omega
        · show 2 * (N - cnt (setS N s.1.1 (a : Int) true) N) + (s.1.2.1 ++ [a * 2]).length ≤ 2 * (N - cnt s.1.1 N) + s.1.2.1.length
          have h1 := cnt_le (setS N s.1.1 (a : Int) true) N
          rw [cntset N a s.1.1 haN hT'] at h1 ⊢
          rw [List.length_append, List.length_singleton]; omega
    · rw [if_neg hobj]
      refine ⟨⟨h.met, h.wait, fun _ => ⟨x, hx, by omega, by omega, hobj⟩, fun hq => (by cases hq), h.sum, h.len⟩, fun _ hj => hj, fun hq => (by cases hq), Nat.le_refl _⟩
theorem allNQ_inv {N : Nat} {S : Nat → Bool} {M : Nat → Nat} {R : List Nat} {s : StQ} {a : Nat} (hG : GoodH N S M) (h : Inv N S M R s a) (i : Nat) (hw : ∀ y, y ∈ M a :: (List.range i).map (fun j => M (a + 2 + j)) → Wd S M R y) :
    Inv N S M R (allNQ N S M s a i) a ∧ (∀ j, s.1.1 j = true → (allNQ N S M s a i).1.1 j = true) ∧ ((allNQ N S M s a i).2 = false → s.2 = false ∧ ∀ y, y ∈ M a :: (List.range i).map (fun j => M (a + 2 + j)) → Res (allNQ N S M s a i).1.1 y) ∧ muQ N (allNQ N S M s a i) ≤ muQ N s := by
  induction i with
  | zero =>
    obtain ⟨h1, h2, h3, h4⟩ := leadQ_inv hG h (hw (M a) (by simp))
    refine ⟨h1, h2, fun hq => ⟨(h3 hq).1, fun y hy => ?_⟩, h4⟩
    have : y = M a := by simpa using hy
    rw [this]; exact (h3 hq).2
  | succ i ih =>
    obtain ⟨g1, g2, g3, g4⟩ := ih (fun y hy => hw y (by
      rw [List.range_succ, List.map_append]
      rcases List.mem_cons.1 hy with h | h
      · exact List.mem_cons.2 (Or.inl h)
      · exact List.mem_cons.2 (Or.inr (List.mem_append.2 (Or.inl h)))))
    obtain ⟨h1, h2, h3, h4⟩ := leadQ_inv hG g1 (hw (M (a + 2 + i)) (by rw [List.range_succ, List.map_append]; simp))
    refine ⟨h1, fun j hj => h2 j (g2 j hj), fun hq => ?_, Nat.le_trans h4 g4⟩
    obtain ⟨k1, k2⟩ := h3 hq
    obtain ⟨l1, l2⟩ := g3 k1
    refine ⟨l1, fun y hy => ?_⟩
    rw [List.range_succ, List.map_append] at hy
    rcases List.mem_cons.1 hy with hy | hy
    · exact (l2 y (List.mem_cons.2 (Or.inl hy))).mono h2
    · rcases List.mem_append.1 hy with hy | hy
      · exact (l2 y (List.mem_cons.2 (Or.inr hy))).mono h2
      · have : y = M (a + 2 + i) := by simpa using hy
        rw [this]; exact k2
theorem wordsA_eq (M : Nat → Nat) (a : Nat) : wordsA M a = M a :: (List.range (if hK (M (a + 1)) = 2 then 0 else (hS (M (a + 1))).toNat)).map (fun j => M (a + 2 + j)) := by
  unfold wordsA
  by_cases h : hK (M (a + 1)) = 2
  · rw [if_pos h, if_pos h]; rfl
  · rw [if_neg h, if_neg h]
/-- what holds between two steps -/
def PQ (N : Nat) (S : Nat → Bool) (M : Nat → Nat) (R : List Nat) (s : StQ) : Prop := Inv N S M R s 0 ∧ (s.2 = false → ∀ x, x ∈ R → Res s.1.1 x)
theorem pq_step {N : Nat} {S : Nat → Bool} {M : Nat → Nat} {R : List Nat} (hG : GoodH N S M) (T : Nat → Bool) (l : List Nat) (k x : Nat) (h : PQ N S M R ((T, l ++ [x], k), false)) :
    ∃ a, x = a * 2 ∧ S a = true ∧ PQ N S M R (allQ N S M ((T, l, k), false) a) ∧ muQ N (allQ N S M ((T, l, k), false) a) < muQ N ((T, l ++ [x], k), false) := by
  obtain ⟨hI, hR⟩ := h
  obtain ⟨a, rfl, hTa⟩ := hI.wait x (by simp)
  obtain ⟨hWa, hSa⟩ := hI.met a hTa
  have hI1 : Inv N S M R ((T, l, k), false) a := by
    refine ⟨hI.met, fun y hy => hI.wait y (List.mem_append.2 (Or.inl hy)), hI.loose, fun hq j hj hne => ?_, hI.sum, ?_⟩
    · have hj0 : j ≠ 0 := by
        intro e
        have := (hG j (hI.met j hj).2).1.1
        omega
      rcases hI.done hq j hj hj0 with h1 | h1
      · rcases List.mem_append.1 h1 with h1 | h1
        · exact Or.inl h1
        · have h2 : j * 2 = a * 2 := by simpa using h1
          exact absurd (show j = a by omega) hne
      · exact Or.inr h1
    · have := hI.len
      simp only [List.length_append, List.length_singleton] at this
      exact Nat.le_trans (by show l.length ≤ l.length + 1; omega) this
  have hw : ∀ y, y ∈ M a :: (List.range (if hK (M (a + 1)) = 2 then 0 else (hS (M (a + 1))).toNat)).map (fun j => M (a + 2 + j)) → Wd S M R y := fun y hy => Wd.step hWa hSa (by rw [wordsA_eq]; exact hy)
  obtain ⟨g1, g2, g3, g4⟩ := allNQ_inv hG hI1 (if hK (M (a + 1)) = 2 then 0 else (hS (M (a + 1))).toNat) hw
  refine ⟨a, rfl, hSa, ⟨⟨g1.met, g1.wait, g1.loose, fun hq j hj hj0 => ?_, g1.sum, g1.len⟩, fun hq y hy => ?_⟩, Nat.lt_of_le_of_lt g4 ?_⟩
  · by_cases hja : j = a
    · subst hja
      right
      rw [wordsA_eq]
      exact (g3 hq).2
    · exact g1.done hq j hj hja
  · exact (hR rfl y hy).mono g2
  · show 2 * (N - cnt T N) + l.length < 2 * (N - cnt T N) + (l ++ [a * 2]).length
    rw [List.length_append, List.length_singleton]; omega
theorem roots_inv {N : Nat} {S : Nat → Bool} {M : Nat → Nat} {R : List Nat} (hG : GoodH N S M) (i : Nat) (hi : i ≤ R.length) :
    Inv N S M R (rootsQ N S M R i) 0 ∧ ((rootsQ N S M R i).2 = false → ∀ j, j < i → Res (rootsQ N S M R i).1.1 (R.getD j 1)) := by
  induction i with
  | zero =>
    refine ⟨⟨fun a h => (by cases h), fun x h => (by cases h), fun h => (by cases h), fun _ a h => (by cases h), ?_, Nat.zero_le _⟩, fun _ j hj => (by omega)⟩
    show 0 = ksum M (fun _ => false) N
    have : ∀ n, ksum M (fun _ => false) n = 0 := fun n => by
      induction n with
      | zero => rfl
      | succ n ih => unfold ksum; rw [ih]; rfl
    exact (this N).symm
  | succ i ih =>
    obtain ⟨h1, h2⟩ := ih (by omega)
    have hmem : R.getD i 1 ∈ R := by
      rw [List.getD_eq_getElem?_getD, List.getElem?_eq_getElem (by omega)]
      exact List.getElem_mem (by omega)
    obtain ⟨g1, g2, g3, g4⟩ := leadQ_inv hG h1 (Wd.root hmem)
    refine ⟨g1, fun hq j hj => ?_⟩
    obtain ⟨k1, k2⟩ := g3 hq
    by_cases hji : j = i
    · subst hji; exact k2
    · exact (h2 k1 j (by omega)).mono g2
theorem roots_pq {N : Nat} {S : Nat → Bool} {M : Nat → Nat} {R : List Nat} (hG : GoodH N S M) : PQ N S M R (rootsQ N S M R R.length) := by
  obtain ⟨h1, h2⟩ := roots_inv hG R.length (Nat.le_refl _)
  refine ⟨h1, fun hq x hx => ?_⟩
  obtain ⟨j, hj, rfl⟩ := List.getElem_of_mem hx
  have := h2 hq j hj
  rw [List.getD_eq_getElem?_getD, List.getElem?_eq_getElem hj] at this
  exact this
/-- at the end: all that is led to, and no more -/
theorem pq_end {N : Nat} {S : Nat → Bool} {M : Nat → Nat} {R : List Nat} {s : StQ} (hG : GoodH N S M) (hN : N ≤ 16777216) (h : PQ N S M R s) (hq : s.2 = false) (hl : s.1.2.1 = []) :
    ¬ Bad S M R ∧ ∀ a, s.1.1 a = true ↔ Wd S M R (a * 2) ∧ S a = true := by
  obtain ⟨hI, hR⟩ := h
  have key : ∀ x, Wd S M R x → Res s.1.1 x := by
    intro x hx
    induction hx with
    | root hx => exact hR hq _ hx
    | @step a y hw hs hy ih =>
      have ha1 := (hG a hs).1.1
      have hT : s.1.1 a = true := by
        rcases ih with h | h | h
        · omega
        · omega
        · rw [show a * 2 / 2 = a by omega] at h; exact h
      rcases hI.done hq a hT (by omega) with h | h
      · rw [hl] at h; cases h
      · exact h y hy
  have h2 : ∀ a, s.1.1 a = true ↔ Wd S M R (a * 2) ∧ S a = true := by
    intro a
    refine ⟨hI.met a, fun ⟨h1, h2⟩ => ?_⟩
    have ha1 := (hG a h2).1.1
    rcases key _ h1 with h | h | h
    · omega
    · omega
    · rw [show a * 2 / 2 = a by omega] at h; exact h
  refine ⟨?_, h2⟩
  rintro ⟨y, hy, y0, y1, y2⟩
  rcases key y hy with h | h | h
  · exact y0 h
  · omega
  · have h3 := (hI.met _ h).2
    have h4 := (hG _ h3).1.2.1
    exact y2 ⟨by omega, h3⟩
theorem Wd.mono {S : Nat → Bool} {M : Nat → Nat} {R R' : List Nat} (h : ∀ x, x ∈ R → x ∈ R') {x : Nat} (hx : Wd S M R x) : Wd S M R' x := by
  induction hx with
  | root hx => exact Wd.root (h _ hx)
  | step _ hs hy ih => exact Wd.step ih hs hy
theorem Bad.mono {S : Nat → Bool} {M : Nat → Nat} {R R' : List Nat} (h : ∀ x, x ∈ R → x ∈ R') (hb : Bad S M R) : Bad S M R' := by
  obtain ⟨y, hy, h1⟩ := hb
  exact ⟨y, hy.mono h, h1⟩
/-- mark.Reach: just what the roots lead to -/
theorem reach_cl (B0 h N free : Nat) (S : Nat → Bool) (M : Nat → Nat) (rs : List Nat) (a0 : Option Addr) (cap : Nat) (w : World) (H0 : HeapAt w B0 h N free S M) (hG : GoodH N S M)
    (hrs : ∀ i, i < rs.length → rs.getD i 1 < 18446744073709551616 ∧ ∃ rb ro, a0 = some ⟨rb, ro, none⟩ ∧ rb < w.heap.size ∧ w.cell? ⟨rb, ro + i, none⟩ = some (.int .u64 (rs.getD i 1 : Int))) (hcap : rs.length ≤ cap) (hcap2 : rs.length ≤ 1000000) (hcap3 : cap ≤ maxLen) :
    Calls Tryz.prog 30 #[.pointer (some ⟨h, 0, none⟩), .slice a0 rs.length cap] w fun e w' => ((Bad S M rs ∧ e = .returned (.tuple #[.pointer none, .int .i64 0, .int .i64 13])) ∨ (¬ Bad S M rs ∧ ∃ b T, e = .returned (.tuple #[.pointer (some ⟨b, 0, none⟩), .int .i64 (ksum M T N : Int), .int .i64 0]) ∧ BitsAt w' w.heap.size b N T ∧ ∀ a, T a = true ↔ Wd S M rs (a * 2) ∧ S a = true)) ∧ Below w.heap.size w w' := by
  have hN : N ≤ 16777216 := by obtain ⟨g, s, -, -, h3, -⟩ := H0; exact h3
  refine (reach_gen B0 h N free S M rs (PQ N S M rs) (muQ N) a0 cap w H0 hG hrs hcap hcap2 hcap3 (roots_pq hG) (fun s hs => ?_) (fun T l k x hp => pq_step hG T l k x hp)).mono ?_
  · have h1 := hs.1.len
    have h2 := cnt_le s.1.1 N
    have h3 := ksum_bd M s.1.1 N
    have h4 := hs.1.sum
    omega
  · rintro e w' ⟨s, hp, ⟨hq, rfl⟩ | ⟨hq, hl, b, rfl, hb⟩, hg⟩
    · exact ⟨Or.inl ⟨hp.1.loose hq, rfl⟩, hg⟩
    · obtain ⟨h1, h2⟩ := pq_end hG hN hp hq hl
      exact ⟨Or.inr ⟨h1, b, s.1.1, by rw [hp.1.sum], hb, h2⟩, hg⟩
end Go.Proofs.YtibopjjicfiimaaGreatDoor
