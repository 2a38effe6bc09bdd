/- Going through objects: led to any word; all from an object. -/
import Derived.Test.YtfhkmbeokdfllaaMarkC
namespace Go.Proofs.Ytfhkmbeokdfllaa
open Go.RowKit
set_option linter.unusedVariables false
/-- what was met, what waits, how many cells -/
abbrev St := (Nat → Bool) × List Nat × Nat
def cz (M : Nat → Nat) (a : Nat) : Nat := (cellsZ (M a) (hK (M (a + 1))) (hS (M (a + 1))) (hH (M (a + 1)))).toNat
theorem cz_bd (M : Nat → Nat) (a : Nat) : cz M a ≤ 1048576 := by
  have := cellsZ_bd (M a) (hK (M (a + 1))) (hS (M (a + 1))) (hH (M (a + 1)))
  unfold cz; omega
def lead1 (N : Nat) (M : Nat → Nat) (s : St) (x : Nat) : St :=
  if x % 2 = 1 then s else if s.1 (x / 2) = true then s else (setS N s.1 ((x / 2 : Nat) : Int) true, s.2.1 ++ [x], s.2.2 + 2 + cz M (x / 2))
def OKO (N : Nat) (S : Nat → Bool) (M : Nat → Nat) (a : Nat) : Prop := 1 ≤ a ∧ a + 2 ≤ N ∧ S a = true ∧ UnOK (M a) (M (a + 1))
def OKW (N : Nat) (S : Nat → Bool) (M : Nat → Nat) (x : Nat) : Prop := x < 18446744073709551616 ∧ (x % 2 = 1 ∨ ∃ a, x = a * 2 ∧ OKO N S M a)
def LookS (w : World) (B p h N : Nat) (s : St) : Prop := LookAt w B p h N s.1 s.2.1 s.2.2
theorem lead1_len (N : Nat) (M : Nat → Nat) (s : St) (x : Nat) : s.2.1.length ≤ (lead1 N M s x).2.1.length ∧ (lead1 N M s x).2.1.length ≤ s.2.1.length + 1 ∧ (lead1 N M s x).2.2 ≤ s.2.2 + 1048578 := by
  have := cz_bd M (x / 2)
  unfold lead1
  split
  · exact ⟨Nat.le_refl _, by omega, by omega⟩
  · split
    · exact ⟨Nat.le_refl _, by omega, by omega⟩
    · simp; omega
theorem lead_any (w0 : World) (B0 B p h N free x : Nat) (S : Nat → Bool) (M : Nat → Nat) (s : St) (w : World) (H0 : HeapAt w0 B0 h N free S M) (hB : w0.heap.size = B) (hw : Below B w0 w) (L : LookS w B p h N s)
    (hx : OKW N S M x) (hl : s.2.1.length ≤ 1000000000000) (hk : s.2.2 ≤ 1000000000000000000) :
    Calls Try.prog 33 #[.pointer (some ⟨p, 0, none⟩), .int .u64 (x : Int)] w fun e w' => e = .returned (.tuple #[]) ∧ LookS w' B p h N (lead1 N M s x) ∧ Below B w w' ∧ Keeps3 w w' ∧ ((lead1 N M s x).2.1.length = s.2.1.length → KeepsBut 28 w w') := by
  obtain ⟨hx0, hx⟩ := hx
  by_cases ho : x % 2 = 1
  · rw [show lead1 N M s x = s by unfold lead1; rw [if_pos ho]]
    refine (lead_small _ x hx0 ho w).mono ?_
    rintro e w' ⟨rfl, rfl⟩
    exact ⟨rfl, L, Below.refl _ _, Keeps3.ofBits (KeepsBut.refl _ _), fun _ => KeepsBut.refl _ _⟩
  · obtain ⟨a, rfl, a0, ha, hS', hok⟩ := hx.resolve_left ho
    rw [show ((a * 2 : Nat) : Int) = (a : Int) * 2 by omega]
    have e2 : a * 2 / 2 = a := by omega
    by_cases hT : s.1 a = true
    · rw [show lead1 N M s (a * 2) = s by unfold lead1; rw [if_neg ho, e2, if_pos hT]]
      refine (lead_old w0 B0 B p h N free a S M s.1 s.2.1 s.2.2 w H0 hB hw L a0 ha hS' hok hT).mono ?_
      rintro e w' ⟨rfl, h1, h2, h3⟩
      exact ⟨rfl, h1, h2, Keeps3.ofBits h3, fun _ => h3⟩
    · rw [show lead1 N M s (a * 2) = (setS N s.1 (a : Int) true, s.2.1 ++ [a * 2], s.2.2 + 2 + cz M a) by unfold lead1; rw [if_neg ho, e2, if_neg hT]]
      refine (lead_new w0 B0 B p h N free a S M s.1 s.2.1 s.2.2 w H0 hB hw L a0 ha hS' hok (by simpa using hT) hl hk).mono ?_
      rintro e w' ⟨rfl, h1, h2, h3⟩
      exact ⟨rfl, h1, h2, h3, fun h => by simp at h⟩
/-- all that an object leads to, up to a slot -/
def allN (N : Nat) (M : Nat → Nat) (s : St) (a : Nat) : Nat → St
  | 0 => lead1 N M s (M a)
  | i + 1 => lead1 N M (allN N M s a i) (M (a + 2 + i))
theorem allN_len (N : Nat) (M : Nat → Nat) (s : St) (a i : Nat) : s.2.1.length ≤ (allN N M s a i).2.1.length ∧ (allN N M s a i).2.1.length ≤ s.2.1.length + 1 + i ∧ (allN N M s a i).2.2 ≤ s.2.2 + 1048578 * (i + 1) := by
  induction i with
  | zero => have := lead1_len N M s (M a); unfold allN; omega
  | succ i ih => have := lead1_len N M (allN N M s a i) (M (a + 2 + i)); unfold allN; omega
def allM (N : Nat) (M : Nat → Nat) (s : St) (a : Nat) : St := allN N M s a (hS (M (a + 1))).toNat
/-- an object of slots, all whose words are objects or small -/
def OKF (N : Nat) (S : Nat → Bool) (M : Nat → Nat) (a : Nat) : Prop :=
  OKO N S M a ∧ hK (M (a + 1)) ≠ 2 ∧ a + 2 + (hS (M (a + 1))).toNat ≤ N ∧ OKW N S M (M a) ∧ ∀ i, i < (hS (M (a + 1))).toNat → OKW N S M (M (a + 2 + i))
set_option maxRecDepth 100000 in
set_option maxHeartbeats 1000000 in
theorem all_any (w0 : World) (B0 B p h N free a : Nat) (S : Nat → Bool) (M : Nat → Nat) (s : St) (w : World) (H0 : HeapAt w0 B0 h N free S M) (hB : w0.heap.size = B) (hw : Below B w0 w) (L : LookS w B p h N s)
    (ha : OKF N S M a) (hl : s.2.1.length ≤ 10000000000) (hk : s.2.2 ≤ 10000000000000000) :
    Calls Try.prog 34 #[.pointer (some ⟨p, 0, none⟩), .int .u64 (a * 2 : Int)] w fun e w' => e = .returned (.tuple #[]) ∧ LookS w' B p h N (allM N M s a) ∧ Below B w w' ∧ ((allM N M s a).2.1.length = s.2.1.length → KeepsBut 28 w w') := by
  obtain ⟨⟨a0, a1, a2, hok⟩, hk2, ha2, hx0, hxi⟩ := ha
  have hN : N ≤ 16777216 := by obtain ⟨g, s, -, -, h3, -⟩ := H0; exact h3
  unfold allM
  obtain ⟨n, hn⟩ : ∃ n : Nat, hS (M (a + 1)) = (n : Int) := ⟨(hS (M (a + 1))).toNat, by unfold hS; omega⟩
  have hn2 : n ≤ 1048576 := by have := hok.2.2.1; omega
  have HD := Lib.hid (fun W (hW : Below B w0 W) => hHead_yes B0 h N free a S M W (H0.later (hB ▸ hW)) a0 a1 a2 hok)
  have GT := Lib.hid (fun W (hW : Below B w0 W) (i : Nat) (hi : i < n) => hget_yes B0 h N free a i S M W (H0.later (hB ▸ hW)) a0 (by rw [hn] at ha2; omega) a2 hok hk2 (by rw [hn]; omega))
  have LD := Lib.hid (fun W (hW : Below B w0 W) t (hL : LookS W B p h N t) x hx h1 h2 => lead_any w0 B0 B p h N free x S M t W H0 hB hW hL hx h1 h2)
  rw [hn, Int.toNat_natCast] at hxi ha2 ⊢
  rw [hn] at HD
  have HX := Lib.hid hxi
  have HX0 := Lib.hid hx0
  have LL := Lib.hid L
  have HW := Lib.hid hw
  have z0 : w.cell? ⟨p, 0, none⟩ = some (.pointer (some ⟨h, 0, none⟩)) := by obtain ⟨b, v, h1, h2, z0, -⟩ := L.parts; exact z0
  have AL := Lib.hid (fun i => allN_len N M s a i)
  have hB0 : B ≤ w0.heap.size := by omega
  have hBs : B ≤ w.heap.size := Nat.le_trans hB0 hw.size
  generalize hK (M (a + 1)) = vk at *
  generalize hH (M (a + 1)) = vh at *
  generalize hM (M (a + 1)) = vm at *
  have hk3 : (vk == 2) = false := by simpa using hk2
  clear hok a2 H0 L hxi hx0 hB hn hk2
  go_enter Try.func34, Try.ntmps34
  go_wp2_with fail
  refine (HD.out _ hw).mono ?_
  rintro e w2 ⟨rfl, hg2⟩
  go_wp2_with fail
  obtain ⟨w3, hw3⟩ : ∃ w3, w3 = w2.alloc (.cells #[.int .u64 (M a : Int), .int .i64 vk, .int .i64 (n : Int), .int .u32 vh, .bool vm] 56) := ⟨_, rfl⟩
  have hg3 : Below w.heap.size w w3 := by rw [hw3]; exact hg2.alloc hg2.size _
  rw [← hw3]
  have hx3 : w3.heap[w2.heap.size]? = some (.cells #[.int .u64 (M a : Int), .int .i64 vk, .int .i64 (n : Int), .int .u32 vh, .bool vm] 56 (0, 0)) := by rw [hw3]; exact heap_alloc_new w2 _
  clear hw3
  have L3 : LookS w3 B p h N s := LL.out.later hg3
  have G3 : Below B w0 w3 := hw.trans (hg3.mono hBs)
  have K3 := Lib.hid (KeepsBut.below (T0 := 28) hg3)
  have HG3 := Lib.hid (hg3.mono hBs)
  generalize w2.heap.size = x at *
  refine (LD.out w3 G3 s L3 (M a) HX0.out (by omega) (by omega)).mono ?_
  rintro e w4 ⟨rfl, hl4, hg4, hk4, hf4⟩
  have hx4 := (hk4 x _ _ _ hx3 (by decide) (by decide) (by decide)).trans hx3
  have x1 := cellO hx4 1
  have x2 := cellO hx4 2
  simp at x1 x2
  have HL4 := Lib.hid (show LookS w4 B p h N (allN N M s a 0) from hl4)
  have HG4 := Lib.hid (HG3.out.trans hg4)
  have HF4 := Lib.hid (show ((allN N M s a 0).2.1.length = s.2.1.length → KeepsBut 28 w w4) from fun h => K3.out.trans (hf4 h))
  clear hl4 hg4 hk4 hf4 hx4 hx3 hg3 L3 HG3 K3 LL hg2 z0
  go_wp2_with fail
  all_goals (try (exfalso; go_light; omega))
  go_loopg [27] n (fun gg s27 wr => ∃ i : Nat, gg = n - i ∧ i ≤ n ∧ s27 = .int .i64 (i : Int) ∧ LookS wr B p h N (allN N M s a i) ∧ Below B w wr ∧ ((allN N M s a i).2.1.length = s.2.1.length → KeepsBut 28 w wr))
  case atStart => exact ⟨0, rfl, by omega, rfl, HL4.out, HG4.out, HF4.out⟩
  case round =>
    obtain ⟨i, hgi, hi, rfl, hl5, hg5, hf5⟩ := hrel
    have HGI := Lib.hid hgi
    have HL5 := Lib.hid hl5
    have HG5 := Lib.hid hg5
    have HF5 := Lib.hid hf5
    have z0 : wr.cell? ⟨p, 0, none⟩ = some (.pointer (some ⟨h, 0, none⟩)) := by obtain ⟨b, v, h1, h2, z0, -⟩ := hl5.parts; exact z0
    have G5 := Lib.hid (HW.out.trans hg5)
    have hBr : B ≤ wr.heap.size := Nat.le_trans hBs hg5.size
    clear hgi hl5 hg5 hf5
    by_cases hlt : i < n
    · go_wp2_with fail
      refine (GT.out wr G5.out i hlt).mono ?_
      rintro e w6 ⟨rfl, hg6⟩
      have hl6 : LookS w6 B p h N (allN N M s a i) := HL5.out.later hg6
      have G6 : Below B w0 w6 := G5.out.trans (hg6.mono hBr)
      have K6 := Lib.hid (KeepsBut.below (T0 := 28) hg6)
      have HG6 := Lib.hid (HG5.out.trans (hg6.mono hBr))
      clear hg6
      go_wp2_with fail
      have hb := AL.out i
      refine (LD.out w6 G6 _ hl6 (M (a + 2 + i)) (HX.out i hlt) (by omega) (by omega)).mono ?_
      rintro e w7 ⟨rfl, hl7, hg7, hk7, hf7⟩
      have HL7 := Lib.hid (show LookS w7 B p h N (allN N M s a (i + 1)) from hl7)
      have HG7 := Lib.hid (HG6.out.trans hg7)
      have HF7 := Lib.hid (show ((allN N M s a (i + 1)).2.1.length = s.2.1.length → KeepsBut 28 w w7) from fun hh => by
        have h1 := lead1_len N M (allN N M s a i) (M (a + 2 + i))
        have h2 : (allN N M s a (i + 1)).2.1.length = (lead1 N M (allN N M s a i) (M (a + 2 + i))).2.1.length := rfl
        exact (HF5.out (by omega)).trans (K6.out.trans (hf7 (by omega))))
      clear hl7 hg7 hk7 hf7
      go_wp2_with fail
      go_roundg (n - (i + 1))
      case measure => rw [HGI.out]; omega
      case rel => exact ⟨i + 1, rfl, by omega, by go_num, HL7.out, HG7.out, HF7.out⟩
    · have : i = n := by omega
      subst this
      go_wp2_with fail
      go_end0
      exact ⟨rfl, HL5.out, HG5.out, HF5.out⟩
end Go.Proofs.Ytfhkmbeokdfllaa
