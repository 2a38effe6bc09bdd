/- Going through objects: what the walk's state is; it begins. Going through objects: led to a word. Going through objects: led to an object that was not met. -/
import Derived.Test.YtobajnodckiohaaDoorHeapT
import Derived.Test.YtobajnodckiohaaDoorHeapE
import Derived.Test.YtobajnodckiohaaDoorPackMore
import Derived.Test.YtobajnodckiohaaDoorCopy
import Derived.Deep.RegionWith
import Derived.Deep.CutBlock
namespace Go.Proofs.YtobajnodckiohaaDoor
open Go.RowKit
set_option linter.unusedVariables false
set_option maxRecDepth 100000 in
theorem hcells_any (B h N free : Nat) (S : Nat → Bool) (M : Nat → Nat) (w : World) (H : HeapAt w B h N free S M) :
    Calls Tryd.prog 35 #[.pointer (some ⟨h, 0, none⟩)] w fun e w' => e = .returned (.int .i64 (N : Int)) ∧ w' = w := by
  obtain ⟨g, s, h1, h2, h3, h3', h4, h5, h6, h7, h8⟩ := H
  have c0 : w.cell? ⟨h, 0, none⟩ = some (.slice (some ⟨g, 0, none⟩) N N) := by simp [World.cell?, h5]
  have hl := (Array.getElem?_eq_some_iff.1 h5).1
  clear h5 h6 h8
  go_enter Tryd.func35, Tryd.ntmps35
  go_wp2_with fail
  go_ret
  exact ⟨rfl, rfl⟩
def wordCells (l : List Nat) : List Value := l.map fun (x : Nat) => Value.int .u64 (Int.ofNat x)
/-- a row of words of the call's own -/
def OwnsW (w : World) (B : Nat) (v : Value) (l : List Nat) : Prop := w.ownsRow B 38 1 v l.length (wordCells l)
theorem OwnsW.keeps {w w' : World} {B : Nat} {v : Value} {l : List Nat} {T : TypeId} (h : OwnsW w B v l) (hk : KeepsBut T w w') (hT : 38 ≠ T) : OwnsW w' B v l := by
  unfold OwnsW at h ⊢
  obtain ⟨h0, h⟩ := h
  refine ⟨h0, ?_⟩
  rcases h with h | ⟨g, cap, cur, h1, h2, h3, h4⟩
  · exact Or.inl h
  · exact Or.inr ⟨g, cap, cur, h1, h2, by rw [hk g _ _ _ h3 hT]; exact h3, h4⟩
/-- the walk's state: which objects were met, which wait, how many cells they have; nothing is loose -/
def LookAt (w : World) (B p h N : Nat) (T : Nat → Bool) (l : List Nat) (k : Nat) (q : Bool) : Prop :=
  ∃ b v, B ≤ p ∧ B ≤ b ∧ w.heap[p]? = some (.cells #[.pointer (some ⟨h, 0, none⟩), .pointer (some ⟨b, 0, none⟩), v, .int .i64 (k : Int), .bool q] 80 (0, 0)) ∧ BitsAt w B b N T ∧ OwnsW w B v l
theorem LookAt.keeps {w w' : World} {B p h N k : Nat} {T : Nat → Bool} {l : List Nat} {q : Bool} {t : TypeId} (H : LookAt w B p h N T l k q) (hk : KeepsBut t w w') (t1 : 80 ≠ t) (t2 : 38 ≠ t) (t3 : 117 ≠ t) (t4 : 37 ≠ t) : LookAt w' B p h N T l k q := by
  obtain ⟨b, v, h1, h2, h3, h4, h5⟩ := H
  exact ⟨b, v, h1, h2, by rw [hk p _ _ _ h3 t1]; exact h3, h4.keeps hk t3 t4, h5.keeps hk t2⟩
theorem LookAt.later {w w' : World} {B p h N k : Nat} {T : Nat → Bool} {l : List Nat} {q : Bool} (H : LookAt w B p h N T l k q) (hb : Below w.heap.size w w') : LookAt w' B p h N T l k q := by
  obtain ⟨b, v, h1, h2, h3, h4, h5⟩ := H
  exact ⟨b, v, h1, h2, by rw [hb.block p (Array.getElem?_eq_some_iff.1 h3).1]; exact h3, h4.later hb, owns_later h5 hb⟩
set_option maxRecDepth 100000 in
theorem begin_any (B h N free : Nat) (S : Nat → Bool) (M : Nat → Nat) (w : World) (H : HeapAt w B h N free S M) :
    Calls Tryd.prog 23 #[.pointer (some ⟨h, 0, none⟩)] w fun e w' => ∃ p, e = .returned (.pointer (some ⟨p, 0, none⟩)) ∧ LookAt w' w.heap.size p h N (fun _ => false) [] 0 false ∧ Below w.heap.size w w' := by
  have HC := Lib.hid (hcells_any B h N free S M w H)
  have hN : N ≤ 16777216 := by obtain ⟨g, s, -, -, h3, -⟩ := H; exact h3
  have NB := Lib.hid (newBits_any (N : Int) w)
  rw [show sizeZ (N : Int) = N by unfold sizeZ; omega] at NB
  go_enter Tryd.func23, Tryd.ntmps23
  go_wp2_with fail
  refine HC.out.mono ?_
  rintro e w1 ⟨rfl, rfl⟩
  go_wp2_with fail
  refine NB.out.mono ?_
  rintro e w2 ⟨rfl, hb, hg⟩
  have HB := Lib.hid hb; have HG := Lib.hid hg; clear hb hg
  go_wp2_with fail
  go_ret
  have hs : w1.heap.size ≤ w2.heap.size := HG.out.size
  refine ⟨w2.heap.size, rfl, ⟨w1.heap.size + 1, .slice none 0 0, hs, by omega, heap_alloc_new w2 _, HB.out.later ((Below.refl _ w2).alloc (Nat.le_refl _) _), show World.ownsRow _ _ _ _ _ 0 [] from World.ownsRow_nil _ _ _ _⟩, HG.out.alloc hs _⟩
end Go.Proofs.YtobajnodckiohaaDoor
namespace Go.Proofs.YtobajnodckiohaaDoor
open Go.RowKit
set_option linter.unusedVariables false
/-- blocks of other elements than the walk's are as they were -/
def Keeps3 (w w' : World) : Prop := ∀ (q : Nat) (c : Array Value) (T : TypeId) (fr : Nat × Nat), w.heap[q]? = some (Obj.cells c T fr) → T ≠ 80 → T ≠ 38 → T ≠ 37 → w'.heap[q]? = w.heap[q]?
theorem Keeps3.trans {w w' w2 : World} (h : Keeps3 w w') (h' : Keeps3 w' w2) : Keeps3 w w2 := by
  intro q c T fr hq h1 h2 h3
  have e1 := h q c T fr hq h1 h2 h3
  rw [h' q c T fr (by rw [e1]; exact hq) h1 h2 h3, e1]
theorem Keeps3.ofLook {w w' : World} (h : KeepsBut 80 w w') : Keeps3 w w' := fun q c T fr hq h1 _ _ => h q c T fr hq h1
theorem Keeps3.ofWord {w w' : World} (h : KeepsBut 38 w w') : Keeps3 w w' := fun q c T fr hq _ h2 _ => h q c T fr hq h2
theorem Keeps3.ofBits {w w' : World} (h : KeepsBut 37 w w') : Keeps3 w w' := fun q c T fr hq _ _ h3 => h q c T fr hq h3
theorem LookAt.parts {w : World} {B p h N k : Nat} {T : Nat → Bool} {l : List Nat} {q : Bool} (H : LookAt w B p h N T l k q) :
    ∃ b v, B ≤ p ∧ p < w.heap.size ∧ w.cell? ⟨p, 0, none⟩ = some (.pointer (some ⟨h, 0, none⟩)) ∧ w.cell? ⟨p, 1, none⟩ = some (.pointer (some ⟨b, 0, none⟩)) ∧ w.cell? ⟨p, 2, none⟩ = some v ∧ w.cell? ⟨p, 3, none⟩ = some (.int .i64 (k : Int)) ∧ w.cell? ⟨p, 4, none⟩ = some (.bool q) ∧
      (∀ j, w.frozen? ⟨p, j, none⟩ = false) ∧ BitsAt w B b N T ∧ OwnsW w B v l := by
  obtain ⟨b, v, h1, h2, h3, h4, h5⟩ := H
  have hp := (Array.getElem?_eq_some_iff.1 h3).1
  have z0 := cellO h3 0
  have z1 := cellO h3 1
  have z2 := cellO h3 2
  have z3 := cellO h3 3
  have z4 := cellO h3 4
  refine ⟨b, v, h1, hp, z0, z1, z2, z3, z4, fun j => ?_, h4, h5⟩
  unfold World.frozen?; rw [h3]; cases j <;> rfl
set_option maxRecDepth 100000 in
/-- led to a small word: nothing is changed -/
theorem lead_small (p : Value) (x : Nat) (hx : x < 18446744073709551616) (hx2 : x % 2 = 1) (w : World) :
    Calls Tryd.prog 24 #[p, .int .u64 (x : Int)] w fun e w' => e = .returned (.tuple #[]) ∧ w' = w := by
  have q1 : decide ((x : Int) % 2 = 1) = true := by simp; omega
  have q2 : ¬ (x : Int) = 0 := by omega
  have IS := Lib.hid (fun W => is_any (x : Int) (by omega) (by omega) W)
  rw [q1] at IS
  go_enter Tryd.func24, Tryd.ntmps24
  go_wp2_with fail
  refine (IS.out _).mono ?_
  rintro e w1 ⟨rfl, rfl⟩
  go_wp2_with fail
  exact bodyPost_ret (v := .tuple #[]) (by simp [results, Tryd.results24, go_sem]) rfl ⟨rfl, rfl⟩
set_option maxRecDepth 100000 in
set_option maxHeartbeats 1000000 in
/-- led to an object that was met: nothing is changed -/
theorem lead_old (w0 : World) (B0 B p h N free a : Nat) (S : Nat → Bool) (M : Nat → Nat) (T : Nat → Bool) (l : List Nat) (k : Nat) (q : Bool) (w : World) (H0 : HeapAt w0 B0 h N free S M) (hB : w0.heap.size = B) (hw : Below B w0 w) (L : LookAt w B p h N T l k q)
    (a0 : 1 ≤ a) (ha : a + 2 ≤ N) (hS' : S a = true) (hok : UnOK (M a) (M (a + 1))) (hT : T a = true) :
    Calls Tryd.prog 24 #[.pointer (some ⟨p, 0, none⟩), .int .u64 (a * 2 : Int)] w fun e w' => e = .returned (.tuple #[]) ∧ LookAt w' B p h N T l k q ∧ Below B w w' ∧ KeepsBut 37 w w' := by
  have hN : N ≤ 16777216 := by obtain ⟨g, s, -, -, h3, -⟩ := H0; exact h3
  subst hB
  have HD := Lib.hid (fun W (hW : Below w0.heap.size w0 W) => hHead_yes B0 h N free a S M W (H0.later hW) a0 ha hS' hok)
  have LL := Lib.hid L
  have HW := Lib.hid hw
  have IS := Lib.hid (fun W => is_any (a * 2 : Int) (by omega) (by omega) W)
  rw [show decide ((a * 2 : Int) % 2 = 1) = false by simp] at IS
  have AT := Lib.hid (fun W => at_yes (a * 2 : Int) (by omega) (by omega) (by omega) W)
  rw [show (a * 2 : Int) / 2 = (a : Int) by omega] at AT
  have z0 : w.cell? ⟨p, 0, none⟩ = some (.pointer (some ⟨h, 0, none⟩)) := by obtain ⟨b, v, h1, h2, z0, -⟩ := L.parts; exact z0
  have q2 : ¬ (a : Int) * 2 = 0 := by omega
  clear hok hS' H0 L
  go_enter Tryd.func24, Tryd.ntmps24
  go_wp2_with fail
  refine (IS.out _).mono ?_
  rintro e w1 ⟨rfl, rfl⟩
  go_wp2_with fail
  refine (HD.out _ hw).mono ?_
  rintro e w2 ⟨rfl, hg2⟩
  generalize hK (M (a + 1)) = vk at *
  generalize hS (M (a + 1)) = vs at *
  generalize hH (M (a + 1)) = vh at *
  generalize hM (M (a + 1)) = vm at *
  go_wp2_with fail
  obtain ⟨w3, hw3⟩ : ∃ w3, w3 = w2.alloc (.cells #[.int .u64 (M a : Int), .int .i64 vk, .int .i64 vs, .int .u32 vh, .bool vm] 52) := ⟨_, rfl⟩
  have hg3 : Below w.heap.size w w3 := by rw [hw3]; exact hg2.alloc hg2.size _
  rw [← hw3]
  clear hw3
  obtain ⟨b, v, k1, k2, k3, k4, k5⟩ := LL.out.later hg3
  have hBw : w0.heap.size ≤ w.heap.size := HW.out.size
  have hB3 : w0.heap.size ≤ w3.heap.size := Nat.le_trans hBw hg3.size
  have SK := Lib.hid (set_keep w0.heap.size b N T (a : Int) true w3 k4 hB3)
  have hsb : setB N T (a : Int) true = false := by unfold setB; simp [hT]
  have hss : setS N T (a : Int) true = T := by
    funext j; unfold setS; split
    · rename_i hj; rw [show j = a by omega, hT]
    · rfl
  rw [hsb, hss] at SK
  have y1 := cellO k3 1
  simp at y1
  have KE := Lib.hid (show ∀ w4, KeepsBut 37 w3 w4 → BitsAt w4 w0.heap.size b N T → LookAt w4 w0.heap.size p h N T l k q from fun w4 hk hb => ⟨b, v, k1, k2, (hk p _ _ _ k3 (by decide)).trans k3, hb, k5.keeps hk (by decide)⟩)
  have HG3 := Lib.hid (hg3.mono hBw)
  have HK3 := Lib.hid (KeepsBut.below (T0 := 37) hg3)
  clear k3 k4 k5 hg2 hg3 z0
  refine (AT.out _).mono ?_
  rintro e w3' ⟨rfl, rfl⟩
  go_wp2_with fail
  refine SK.out.mono ?_
  rintro e w4 ⟨rfl, hb4, hg4, hk4⟩
  have HL4 := Lib.hid (KE.out w4 hk4 hb4)
  have HG4 := Lib.hid (HG3.out.trans hg4)
  have HK4 := Lib.hid (HK3.out.trans hk4)
  clear hb4 hg4 hk4
  go_wp2_with fail
  go_end0
  exact ⟨rfl, HL4.out, HG4.out, HK4.out⟩
end Go.Proofs.YtobajnodckiohaaDoor
namespace Go.Proofs.YtobajnodckiohaaDoor
open Go.RowKit
set_option linter.unusedVariables false
/-- a row of its own that is grown: blocks of other elements are as they were -/
theorem KeepsBut.grown {T : TypeId} {w w' : World} {B size n : Nat} {v : Value} {xs : List Value} (ho : w.ownsRow B T size v n xs) (h : w.grownBy w' v.ownBlock) : KeepsBut T w w' := by
  intro q c T' fr hq hT
  refine h.block q (Array.getElem?_eq_some_iff.1 hq).1 (fun e => ?_)
  obtain ⟨-, ⟨rfl, -⟩ | ⟨g, cap, cur, rfl, h2, h3, h4⟩⟩ := ho
  · cases e
  · have : g = q := by simpa [Value.ownBlock] using e.symm
    subst this
    rw [hq] at h3
    simp at h3
    exact hT h3.2.1
theorem OwnsW.of {w : World} {B n : Nat} {v : Value} {xs : List Value} {l : List Nat} (h : w.ownsRow B 38 1 v n xs) (hx : xs = wordCells l) : OwnsW w B v l := by
  subst hx
  have hn : n = l.length := by have := h.1; simp [wordCells] at this; omega
  subst hn
  exact h
set_option maxRecDepth 100000 in
set_option maxHeartbeats 1000000 in
/-- led to an object that was not met -/
theorem lead_new (w0 : World) (B0 B p h N free a : Nat) (S : Nat → Bool) (M : Nat → Nat) (T : Nat → Bool) (l : List Nat) (k : Nat) (q : Bool) (w : World) (H0 : HeapAt w0 B0 h N free S M) (hB : w0.heap.size = B) (hw : Below B w0 w) (L : LookAt w B p h N T l k q)
    (a0 : 1 ≤ a) (ha : a + 2 ≤ N) (hS' : S a = true) (hok : UnOK (M a) (M (a + 1))) (hT : T a = false) (hl : l.length ≤ 1000000000000) (hk : k ≤ 1000000000000000000) :
    Calls Tryd.prog 24 #[.pointer (some ⟨p, 0, none⟩), .int .u64 (a * 2 : Int)] w fun e w' => e = .returned (.tuple #[]) ∧ LookAt w' B p h N (setS N T (a : Int) true) (l ++ [a * 2]) (k + 2 + (cellsZ (M a) (hK (M (a + 1))) (hS (M (a + 1))) (hH (M (a + 1)))).toNat) q ∧ Below B w w' ∧ Keeps3 w w' := by
  obtain ⟨i0, hi, hz0, hz1, hz2⟩ := info_parts cellInfo
  have hN : N ≤ 16777216 := by obtain ⟨g, s, -, -, h3, -⟩ := H0; exact h3
  subst hB
  have HD := Lib.hid (fun W (hW : Below w0.heap.size w0 W) => hHead_yes B0 h N free a S M W (H0.later hW) a0 ha hS' hok)
  have LL := Lib.hid L
  have HW := Lib.hid hw
  have hMa : M a < 18446744073709551616 := by obtain ⟨g, s, -, -, -, -, -, -, -, h7, -⟩ := H0; exact h7 a
  have IS := Lib.hid (fun W => is_any (a * 2 : Int) (by omega) (by omega) W)
  rw [show decide ((a * 2 : Int) % 2 = 1) = false by simp] at IS
  have AT := Lib.hid (fun W => at_yes (a * 2 : Int) (by omega) (by omega) (by omega) W)
  rw [show (a * 2 : Int) / 2 = (a : Int) by omega] at AT
  have z0 : w.cell? ⟨p, 0, none⟩ = some (.pointer (some ⟨h, 0, none⟩)) := by obtain ⟨b, v, h1, h2, z0, -⟩ := L.parts; exact z0
  have hcb := cellsZ_bd (M a) (hK (M (a + 1))) (hS (M (a + 1))) (hH (M (a + 1)))
  have CZ := Lib.hid (fun W => cells_any (M a : Int) (hK (M (a + 1))) (hS (M (a + 1))) (hH (M (a + 1))) (hM (M (a + 1))) (by omega) (by omega) W)
  obtain ⟨c, hc⟩ : ∃ c : Nat, cellsZ (M a) (hK (M (a + 1))) (hS (M (a + 1))) (hH (M (a + 1))) = (c : Int) := ⟨(cellsZ (M a) (hK (M (a + 1))) (hS (M (a + 1))) (hH (M (a + 1)))).toNat, by omega⟩
  rw [hc] at hcb CZ
  rw [hc, Int.toNat_natCast]
  clear hc
  have q2 : ¬ (a : Int) * 2 = 0 := by omega
  clear hok hS' H0 L
  go_enter Tryd.func24, Tryd.ntmps24
  go_wp2_with fail
  refine (IS.out _).mono ?_
  rintro e w1 ⟨rfl, rfl⟩
  go_wp2_with fail
  refine (HD.out _ hw).mono ?_
  rintro e w2 ⟨rfl, hg2⟩
  generalize hK (M (a + 1)) = vk at *
  generalize hS (M (a + 1)) = vs at *
  generalize hH (M (a + 1)) = vh at *
  generalize hM (M (a + 1)) = vm at *
  go_wp2_with fail
  obtain ⟨w3, hw3⟩ : ∃ w3, w3 = w2.alloc (.cells #[.int .u64 (M a : Int), .int .i64 vk, .int .i64 vs, .int .u32 vh, .bool vm] 52) := ⟨_, rfl⟩
  have hg3 : Below w.heap.size w w3 := by rw [hw3]; exact hg2.alloc hg2.size _
  rw [← hw3]
  have hx3 : w3.heap[w2.heap.size]? = some (.cells #[.int .u64 (M a : Int), .int .i64 vk, .int .i64 vs, .int .u32 vh, .bool vm] 52 (0, 0)) := by rw [hw3]; exact heap_alloc_new w2 _
  clear hw3
  obtain ⟨b, v, k1, k2, k3, k4, k5⟩ := LL.out.later hg3
  have hBw : w0.heap.size ≤ w.heap.size := HW.out.size
  have hB3 : w0.heap.size ≤ w3.heap.size := Nat.le_trans hBw hg3.size
  have SK := Lib.hid (set_keep w0.heap.size b N T (a : Int) true w3 k4 hB3)
  have hsb : setB N T (a : Int) true = true := by unfold setB; simp [hT]; omega
  rw [hsb] at SK
  have y1 := cellO k3 1
  simp at y1
  have KE := Lib.hid (show ∀ w4, KeepsBut 37 w3 w4 → w4.heap[p]? = some (.cells #[.pointer (some ⟨h, 0, none⟩), .pointer (some ⟨b, 0, none⟩), v, .int .i64 (k : Int), .bool q] 80 (0, 0)) ∧ w4.heap[w2.heap.size]? = some (.cells #[.int .u64 (M a : Int), .int .i64 vk, .int .i64 vs, .int .u32 vh, .bool vm] 52 (0, 0)) ∧ OwnsW w4 w0.heap.size v l from
    fun w4 hk => ⟨(hk p _ _ _ k3 (by decide)).trans k3, (hk _ _ _ _ hx3 (by decide)).trans hx3, k5.keeps hk (by decide)⟩)
  have HG3 := Lib.hid (hg3.mono hBw)
  have HK3 := Lib.hid (KeepsBut.below (T0 := 37) hg3)
  clear k3 k4 k5 hg2 hg3 z0 hx3
  refine (AT.out _).mono ?_
  rintro e w3' ⟨rfl, rfl⟩
  go_wp2_with fail
  refine SK.out.mono ?_
  rintro e w4 ⟨rfl, hb4, hg4, hk4⟩
  obtain ⟨g1, g2, g3⟩ := KE.out w4 hk4
  have hp4 : p < w4.heap.size := (Array.getElem?_eq_some_iff.1 g1).1
  have z3 := cellO g1 3
  have x0 := cellO g2 0
  have x1 := cellO g2 1
  have x2 := cellO g2 2
  have x3 := cellO g2 3
  have x4 := cellO g2 4
  have f3 : w4.frozen? ⟨p, 3, none⟩ = false := by unfold World.frozen?; rw [g1]; rfl
  simp at z3 x0 x1 x2 x3 x4
  have HP4 := Lib.hid g1
  have HB4 := Lib.hid hb4
  have HO4 := Lib.hid g3
  have HG4 := Lib.hid (HG3.out.trans hg4)
  have HK4 := Lib.hid (Keeps3.ofBits (HK3.out.trans hk4))
  have hB4 : w0.heap.size ≤ w4.heap.size := Nat.le_trans hB3 hg4.size
  generalize w2.heap.size = x at *
  clear hb4 hg4 hk4 g1 g2 g3
  go_upto_region 6 with fail
  go_cut [] from 39 to 49 (fun wx => ∃ w5, Below w4.heap.size w4 w5 ∧ wx = w5.setCell ⟨p, 3, none⟩ (.int .i64 ((k + 2 + c : Nat) : Int)))
  case first =>
    go_region_with (go_at_call 38; go_loud (refine (CZ.out _).mono ?_; rintro e w5 ⟨rfl, hg5⟩; have hq5 : w5.cell? ⟨p, 3, none⟩ = some (.int .i64 (k : Int)) := (hg5.cell (p := ⟨p, 3, none⟩) hp4).trans z3; have hf5 : w5.frozen? ⟨p, 3, none⟩ = false := (hg5.frozen (p := ⟨p, 3, none⟩) hp4).trans f3; have HG5 := Lib.hid hg5; clear hg5))
    all_goals (go_wp2_with fail)
    all_goals go_meet
    all_goals exact ⟨_, ⟨HG5.out.os, HG5.out.tape, HG5.out.output, HG5.out.size, HG5.out.block⟩, by rw [show IntKind.i64.wrap ((k : Int) + IntKind.i64.wrap (2 + (c : Int))) = ((k + 2 + c : Nat) : Int) by simp [IntKind.wrap, IntKind.bits, IntKind.signed]; omega]⟩
  case rest =>
    obtain ⟨w5, hg5, hwc⟩ := hcut
    obtain ⟨w6, hw6⟩ : ∃ w6, w6 = wc := ⟨_, rfl⟩
    rw [← hw6]
    rw [← hw6] at hwc
    clear hw6
    have e5 : w5.heap[p]? = some (.cells #[.pointer (some ⟨h, 0, none⟩), .pointer (some ⟨b, 0, none⟩), v, .int .i64 (k : Int), .bool q] 80 (0, 0)) := (hg5.block p hp4).trans HP4.out
    have e6 : w6.heap[p]? = some (.cells #[.pointer (some ⟨h, 0, none⟩), .pointer (some ⟨b, 0, none⟩), v, .int .i64 ((k + 2 + c : Nat) : Int), .bool q] 80 (0, 0)) := by rw [hwc]; exact heap_setCell_same w5 p 3 _ _ _ e5
    have K6 : KeepsBut 80 w4 w6 := by rw [hwc]; exact (KeepsBut.below hg5).setCell ⟨_, _, e5⟩
    have G6 : Below w0.heap.size w4 w6 := by rw [hwc]; exact (hg5.mono hB4).setCell k1 _
    have hB6 : w0.heap.size ≤ w6.heap.size := Nat.le_trans hB4 G6.size
    have HB6 := Lib.hid (HB4.out.keeps K6 (by decide) (by decide))
    have ho6 := HO4.out.keeps K6 (by decide)
    have HO6 := Lib.hid ho6
    have HG6 := Lib.hid (HG4.out.trans G6)
    have HK6 := Lib.hid (HK4.out.trans (Keeps3.ofLook K6))
    have hp6 : p < w6.heap.size := (Array.getElem?_eq_some_iff.1 e6).1
    have y2 := cellO e6 2
    have f2 : w6.frozen? ⟨p, 2, none⟩ = false := by unfold World.frozen?; rw [e6]; rfl
    simp at y2
    have HP6 := Lib.hid e6
    clear hwc e5 e6 K6 G6 ho6 hg5 HP4 HB4 HO4 HG4 z3 f3 x0 x1 x2 x3 x4
    go_wp2_with (at_builtin; refine wpList_append_own _ rfl _ _ 44 rfl w0.heap.size 38 i0 (.int .u64 0) 1 8 Tryd.underlying44 hi hz0 hz1 hz2 rfl (by decide) _ _ _ rfl (HO6.out.alloc _) ⟨w6.heap.size, 0, none⟩ 1 1 [.int .u64 (a * 2 : Int)] rfl rfl ?c1 ?c2 ?c3 ?c4 ?c5 ?_)
    case c1 =>
      intro j u hj
      match j, hj with
      | 0, hj => simp at hj; subst hj; simp [Addr.add]
    case c2 => intro u hu; simp at hu; subst hu; rfl
    case c3 => unfold maxLen; omega
    case c4 => omega
    case c5 => simp; omega
    intro v' w7 hown' hgrow _
    obtain ⟨a7, n7, c7, rfl⟩ : ∃ a7 n7 c7, v' = .slice a7 n7 c7 := by
      obtain ⟨-, ⟨rfl, -⟩ | ⟨g, cap, cur, rfl, -⟩⟩ := hown'
      · exact ⟨_, _, _, rfl⟩
      · exact ⟨_, _, _, rfl⟩
    have ho7 := OwnsW.of hown' (l := l ++ [a * 2]) (by simp [wordCells])
    have K7 : KeepsBut 38 w6 w7 := ((KeepsBut.alloc _ _ _).trans (KeepsBut.grown (HO6.out.alloc _) hgrow))
    have G7 : Below w0.heap.size w6 w7 := ((Below.refl _ w6).alloc hB6 _).grown hgrow (by simp; omega) (fun q hq => (HO6.out.lt q hq).1)
    have e7 : w7.heap[p]? = some (.cells #[.pointer (some ⟨h, 0, none⟩), .pointer (some ⟨b, 0, none⟩), v, .int .i64 ((k + 2 + c : Nat) : Int), .bool q] 80 (0, 0)) := (K7 p _ _ _ HP6.out (by decide)).trans HP6.out
    have HB7 := Lib.hid (HB6.out.keeps K7 (by decide) (by decide))
    have HG7 := Lib.hid (HG6.out.trans G7)
    have HK7 := Lib.hid (HK6.out.trans (Keeps3.ofWord K7))
    have HO7 := Lib.hid ho7
    have HE7 := Lib.hid e7
    have f7 : w7.frozen? ⟨p, 2, none⟩ = false := by unfold World.frozen?; rw [e7]; rfl
    have y7 := cellO e7 2
    simp at y7
    clear hown' hgrow ho7 K7 G7 HP6 HB6 HO6 HG6 f2 y2 e7
    go_wp2_with fail
    go_end0
    refine ⟨rfl, ⟨b, _, k1, k2, heap_setCell_same w7 p 2 _ _ _ HE7.out, ?_, ?_⟩, HG7.out.setCell k1 _, HK7.out.trans (Keeps3.ofLook ((KeepsBut.refl 80 w7).setCell ⟨_, _, HE7.out⟩))⟩
    · exact HB7.out.keeps ((KeepsBut.refl 80 w7).setCell ⟨_, _, HE7.out⟩) (by decide) (by decide)
    · exact HO7.out.keeps ((KeepsBut.refl 80 w7).setCell ⟨_, _, HE7.out⟩) (by decide)
end Go.Proofs.YtobajnodckiohaaDoor
