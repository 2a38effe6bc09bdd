/- Going through objects: led to a word. -/
import Derived.Test.YtfhkmbeokdfllaaMarkA
import Derived.Deep.RegionWith
namespace Go.Proofs.Ytfhkmbeokdfllaa
open Go.RowKit
set_option linter.unusedVariables false
/-- blocks of other elements than the walk's are as they were -/
def Keeps3 (w w' : World) : Prop := ∀ (q : Nat) (c : Array Value) (T : TypeId) (fr : Nat × Nat), w.heap[q]? = some (Obj.cells c T fr) → T ≠ 75 → T ≠ 29 → T ≠ 28 → w'.heap[q]? = w.heap[q]?
theorem Keeps3.trans {w w' w2 : World} (h : Keeps3 w w') (h' : Keeps3 w' w2) : Keeps3 w w2 := by
  intro q c T fr hq h1 h2 h3
  have e1 := h q c T fr hq h1 h2 h3
  rw [h' q c T fr (by rw [e1]; exact hq) h1 h2 h3, e1]
theorem Keeps3.ofLook {w w' : World} (h : KeepsBut 75 w w') : Keeps3 w w' := fun q c T fr hq h1 _ _ => h q c T fr hq h1
theorem Keeps3.ofWord {w w' : World} (h : KeepsBut 29 w w') : Keeps3 w w' := fun q c T fr hq _ h2 _ => h q c T fr hq h2
theorem Keeps3.ofBits {w w' : World} (h : KeepsBut 28 w w') : Keeps3 w w' := fun q c T fr hq _ _ h3 => h q c T fr hq h3
theorem LookAt.parts {w : World} {B p h N k : Nat} {T : Nat → Bool} {l : List Nat} (H : LookAt w B p h N T l k) :
    ∃ b v, B ≤ p ∧ p < w.heap.size ∧ w.cell? ⟨p, 0, none⟩ = some (.pointer (some ⟨h, 0, none⟩)) ∧ w.cell? ⟨p, 1, none⟩ = some (.pointer (some ⟨b, 0, none⟩)) ∧ w.cell? ⟨p, 2, none⟩ = some v ∧ w.cell? ⟨p, 3, none⟩ = some (.int .i64 (k : Int)) ∧ w.cell? ⟨p, 4, none⟩ = some (.bool false) ∧
      (∀ j, w.frozen? ⟨p, j, none⟩ = false) ∧ BitsAt w B b N T ∧ OwnsW w B v l := by
  obtain ⟨b, v, h1, h2, h3, h4, h5⟩ := H
  have hp := (Array.getElem?_eq_some_iff.1 h3).1
  have z0 := cellO h3 0
  have z1 := cellO h3 1
  have z2 := cellO h3 2
  have z3 := cellO h3 3
  have z4 := cellO h3 4
  refine ⟨b, v, h1, hp, z0, z1, z2, z3, z4, fun j => ?_, h4, h5⟩
  unfold World.frozen?; rw [h3]; cases j <;> rfl
set_option maxRecDepth 100000 in
/-- led to a small word: nothing is changed -/
theorem lead_small (p : Value) (x : Nat) (hx : x < 18446744073709551616) (hx2 : x % 2 = 1) (w : World) :
    Calls Try.prog 33 #[p, .int .u64 (x : Int)] w fun e w' => e = .returned (.tuple #[]) ∧ w' = w := by
  have q1 : decide ((x : Int) % 2 = 1) = true := by simp; omega
  have q2 : ¬ (x : Int) = 0 := by omega
  have IS := Lib.hid (fun W => is_any (x : Int) (by omega) (by omega) W)
  rw [q1] at IS
  go_enter Try.func33, Try.ntmps33
  go_wp2_with fail
  refine (IS.out _).mono ?_
  rintro e w1 ⟨rfl, rfl⟩
  go_wp2_with fail
  exact bodyPost_ret (v := .tuple #[]) (by simp [results, Try.results33, go_sem]) rfl ⟨rfl, rfl⟩
set_option maxRecDepth 100000 in
set_option maxHeartbeats 1000000 in
/-- led to an object that was met: nothing is changed -/
theorem lead_old (w0 : World) (B0 B p h N free a : Nat) (S : Nat → Bool) (M : Nat → Nat) (T : Nat → Bool) (l : List Nat) (k : Nat) (w : World) (H0 : HeapAt w0 B0 h N free S M) (hB : w0.heap.size = B) (hw : Below B w0 w) (L : LookAt w B p h N T l k)
    (a0 : 1 ≤ a) (ha : a + 2 ≤ N) (hS' : S a = true) (hok : UnOK (M a) (M (a + 1))) (hT : T a = true) :
    Calls Try.prog 33 #[.pointer (some ⟨p, 0, none⟩), .int .u64 (a * 2 : Int)] w fun e w' => e = .returned (.tuple #[]) ∧ LookAt w' B p h N T l k ∧ Below B w w' ∧ KeepsBut 28 w w' := by
  have hN : N ≤ 16777216 := by obtain ⟨g, s, -, -, h3, -⟩ := H0; exact h3
  subst hB
  have HD := Lib.hid (fun W (hW : Below w0.heap.size w0 W) => hHead_yes B0 h N free a S M W (H0.later hW) a0 ha hS' hok)
  have LL := Lib.hid L
  have HW := Lib.hid hw
  have IS := Lib.hid (fun W => is_any (a * 2 : Int) (by omega) (by omega) W)
  rw [show decide ((a * 2 : Int) % 2 = 1) = false by simp] at IS
  have AT := Lib.hid (fun W => at_yes (a * 2 : Int) (by omega) (by omega) (by omega) W)
  rw [show (a * 2 : Int) / 2 = (a : Int) by omega] at AT
  have z0 : w.cell? ⟨p, 0, none⟩ = some (.pointer (some ⟨h, 0, none⟩)) := by obtain ⟨b, v, h1, h2, z0, -⟩ := L.parts; exact z0
  have q2 : ¬ (a : Int) * 2 = 0 := by omega
  clear hok hS' H0 L
  go_enter Try.func33, Try.ntmps33
  go_wp2_with fail
  refine (IS.out _).mono ?_
  rintro e w1 ⟨rfl, rfl⟩
  go_wp2_with fail
  refine (HD.out _ hw).mono ?_
  rintro e w2 ⟨rfl, hg2⟩
  generalize hK (M (a + 1)) = vk at *
  generalize hS (M (a + 1)) = vs at *
  generalize hH (M (a + 1)) = vh at *
  generalize hM (M (a + 1)) = vm at *
  go_wp2_with fail
  obtain ⟨w3, hw3⟩ : ∃ w3, w3 = w2.alloc (.cells #[.int .u64 (M a : Int), .int .i64 vk, .int .i64 vs, .int .u32 vh, .bool vm] 56) := ⟨_, rfl⟩
  have hg3 : Below w.heap.size w w3 := by rw [hw3]; exact hg2.alloc hg2.size _
  rw [← hw3]
  clear hw3
  obtain ⟨b, v, k1, k2, k3, k4, k5⟩ := LL.out.later hg3
  have hBw : w0.heap.size ≤ w.heap.size := HW.out.size
  have hB3 : w0.heap.size ≤ w3.heap.size := Nat.le_trans hBw hg3.size
  have SK := Lib.hid (set_keep w0.heap.size b N T (a : Int) true w3 k4 hB3)
  have hsb : setB N T (a : Int) true = false := by unfold setB; simp [hT]
  have hss : setS N T (a : Int) true = T := by
    funext j; unfold setS; split
    · rename_i hj; rw [show j = a by omega, hT]
    · rfl
  rw [hsb, hss] at SK
  have y1 := cellO k3 1
  simp at y1
  have KE := Lib.hid (show ∀ w4, KeepsBut 28 w3 w4 → BitsAt w4 w0.heap.size b N T → LookAt w4 w0.heap.size p h N T l k from fun w4 hk hb => ⟨b, v, k1, k2, (hk p _ _ _ k3 (by decide)).trans k3, hb, k5.keeps hk (by decide)⟩)
  have HG3 := Lib.hid (hg3.mono hBw)
  have HK3 := Lib.hid (KeepsBut.below (T0 := 28) hg3)
  clear k3 k4 k5 hg2 hg3 z0
  refine (AT.out _).mono ?_
  rintro e w3' ⟨rfl, rfl⟩
  go_wp2_with fail
  refine SK.out.mono ?_
  rintro e w4 ⟨rfl, hb4, hg4, hk4⟩
  have HL4 := Lib.hid (KE.out w4 hk4 hb4)
  have HG4 := Lib.hid (HG3.out.trans hg4)
  have HK4 := Lib.hid (HK3.out.trans hk4)
  clear hb4 hg4 hk4
  go_wp2_with fail
  go_end0
  exact ⟨rfl, HL4.out, HG4.out, HK4.out⟩
end Go.Proofs.Ytfhkmbeokdfllaa
