/- Going through objects: led to any word; all from an object. Going through objects: all that is led to from some words, the last one first. Going through objects: how many steps from one to another. -/
import Derived.Test.YtokgnedbbnnecaaDoorMarkC
import Derived.BigQuiet
namespace Go.Proofs.YtokgnedbbnnecaaDoor
open Go.RowKit
set_option linter.unusedVariables false
/-- what was met, what waits, how many cells -/
abbrev St := (Nat → Bool) × List Nat × Nat
def cz (M : Nat → Nat) (a : Nat) : Nat := (cellsZ (M a) (hK (M (a + 1))) (hS (M (a + 1))) (hH (M (a + 1)))).toNat
theorem cz_bd (M : Nat → Nat) (a : Nat) : cz M a ≤ 1048576 := by
  have := cellsZ_bd (M a) (hK (M (a + 1))) (hS (M (a + 1))) (hH (M (a + 1)))
  unfold cz; omega
def lead1 (N : Nat) (M : Nat → Nat) (s : St) (x : Nat) : St :=
  if x % 2 = 1 then s else if s.1 (x / 2) = true then s else (setS N s.1 ((x / 2 : Nat) : Int) true, s.2.1 ++ [x], s.2.2 + 2 + cz M (x / 2))
def OKO (N : Nat) (S : Nat → Bool) (M : Nat → Nat) (a : Nat) : Prop := 1 ≤ a ∧ a + 2 ≤ N ∧ S a = true ∧ UnOK (M a) (M (a + 1))
def OKW (N : Nat) (S : Nat → Bool) (M : Nat → Nat) (x : Nat) : Prop := x < 18446744073709551616 ∧ (x % 2 = 1 ∨ ∃ a, x = a * 2 ∧ OKO N S M a)
def LookS (w : World) (B p h N : Nat) (s : St) : Prop := LookAt w B p h N s.1 s.2.1 s.2.2 false
theorem lead1_len (N : Nat) (M : Nat → Nat) (s : St) (x : Nat) : s.2.1.length ≤ (lead1 N M s x).2.1.length ∧ (lead1 N M s x).2.1.length ≤ s.2.1.length + 1 ∧ (lead1 N M s x).2.2 ≤ s.2.2 + 1048578 := by
  have := cz_bd M (x / 2)
  unfold lead1
  split
  · exact ⟨Nat.le_refl _, by omega, by omega⟩
  · split
    · exact ⟨Nat.le_refl _, by omega, by omega⟩
    · simp; omega
theorem lead_any (w0 : World) (B0 B p h N free x : Nat) (S : Nat → Bool) (M : Nat → Nat) (s : St) (w : World) (H0 : HeapAt w0 B0 h N free S M) (hB : w0.heap.size = B) (hw : Below B w0 w) (L : LookS w B p h N s)
    (hx : OKW N S M x) (hl : s.2.1.length ≤ 1000000000000) (hk : s.2.2 ≤ 1000000000000000000) :
    Calls Tryd.prog 25 #[.pointer (some ⟨p, 0, none⟩), .int .u64 (x : Int)] w fun e w' => e = .returned (.tuple #[]) ∧ LookS w' B p h N (lead1 N M s x) ∧ Below B w w' ∧ Keeps3 w w' ∧ ((lead1 N M s x).2.1.length = s.2.1.length → KeepsBut 45 w w') := by
  obtain ⟨hx0, hx⟩ := hx
  by_cases ho : x % 2 = 1
  · rw [show lead1 N M s x = s by unfold lead1; rw [if_pos ho]]
    refine (lead_small _ x hx0 ho w).mono ?_
    rintro e w' ⟨rfl, rfl⟩
    exact ⟨rfl, L, Below.refl _ _, Keeps3.ofBits (KeepsBut.refl _ _), fun _ => KeepsBut.refl _ _⟩
  · obtain ⟨a, rfl, a0, ha, hS', hok⟩ := hx.resolve_left ho
    rw [show ((a * 2 : Nat) : Int) = (a : Int) * 2 by omega]
    have e2 : a * 2 / 2 = a := by omega
    by_cases hT : s.1 a = true
    · rw [show lead1 N M s (a * 2) = s by unfold lead1; rw [if_neg ho, e2, if_pos hT]]
      refine (lead_old w0 B0 B p h N free a S M s.1 s.2.1 s.2.2 false w H0 hB hw L a0 ha hS' hok hT).mono ?_
      rintro e w' ⟨rfl, h1, h2, h3⟩
      exact ⟨rfl, h1, h2, Keeps3.ofBits h3, fun _ => h3⟩
    · rw [show lead1 N M s (a * 2) = (setS N s.1 (a : Int) true, s.2.1 ++ [a * 2], s.2.2 + 2 + cz M a) by unfold lead1; rw [if_neg ho, e2, if_neg hT]]
      refine (lead_new w0 B0 B p h N free a S M s.1 s.2.1 s.2.2 false w H0 hB hw L a0 ha hS' hok (by simpa using hT) hl hk).mono ?_
      rintro e w' ⟨rfl, h1, h2, h3⟩
      exact ⟨rfl, h1, h2, h3, fun h => by simp at h⟩
/-- all that an object leads to, up to a slot -/
def allN (N : Nat) (M : Nat → Nat) (s : St) (a : Nat) : Nat → St
  | 0 => lead1 N M s (M a)
  | i + 1 => lead1 N M (allN N M s a i) (M (a + 2 + i))
theorem allN_len (N : Nat) (M : Nat → Nat) (s : St) (a i : Nat) : s.2.1.length ≤ (allN N M s a i).2.1.length ∧ (allN N M s a i).2.1.length ≤ s.2.1.length + 1 + i ∧ (allN N M s a i).2.2 ≤ s.2.2 + 1048578 * (i + 1) := by
  induction i with
  | zero => have := lead1_len N M s (M a); unfold allN; omega
  | succ i ih => have := lead1_len N M (allN N M s a i) (M (a + 2 + i)); unfold allN; omega
def allM (N : Nat) (M : Nat → Nat) (s : St) (a : Nat) : St := allN N M s a (hS (M (a + 1))).toNat
/-- an object of slots, all whose words are objects or small -/
def OKF (N : Nat) (S : Nat → Bool) (M : Nat → Nat) (a : Nat) : Prop :=
  OKO N S M a ∧ hK (M (a + 1)) ≠ 2 ∧ a + 2 + (hS (M (a + 1))).toNat ≤ N ∧ OKW N S M (M a) ∧ ∀ i, i < (hS (M (a + 1))).toNat → OKW N S M (M (a + 2 + i))
set_option maxRecDepth 100000 in
set_option maxHeartbeats 1000000 in
theorem all_any (w0 : World) (B0 B p h N free a : Nat) (S : Nat → Bool) (M : Nat → Nat) (s : St) (w : World) (H0 : HeapAt w0 B0 h N free S M) (hB : w0.heap.size = B) (hw : Below B w0 w) (L : LookS w B p h N s)
    (ha : OKF N S M a) (hl : s.2.1.length ≤ 10000000000) (hk : s.2.2 ≤ 10000000000000000) :
    Calls Tryd.prog 26 #[.pointer (some ⟨p, 0, none⟩), .int .u64 (a * 2 : Int)] w fun e w' => e = .returned (.tuple #[]) ∧ LookS w' B p h N (allM N M s a) ∧ Below B w w' ∧ ((allM N M s a).2.1.length = s.2.1.length → KeepsBut 45 w w') := by
  obtain ⟨⟨a0, a1, a2, hok⟩, hk2, ha2, hx0, hxi⟩ := ha
  have hN : N ≤ 16777216 := by obtain ⟨g, s, -, -, h3, -⟩ := H0; exact h3
  unfold allM
  obtain ⟨n, hn⟩ : ∃ n : Nat, hS (M (a + 1)) = (n : Int) := ⟨(hS (M (a + 1))).toNat, by unfold hS; omega⟩
  have hn2 : n ≤ 1048576 := by have := hok.2.2.1; omega
  have HD := Lib.hid (fun W (hW : Below B w0 W) => hHead_yes B0 h N free a S M W (H0.later (hB ▸ hW)) a0 a1 a2 hok)
  have GT := Lib.hid (fun W (hW : Below B w0 W) (i : Nat) (hi : i < n) => hget_yes B0 h N free a i S M W (H0.later (hB ▸ hW)) a0 (by rw [hn] at ha2; omega) a2 hok hk2 (by rw [hn]; omega))
  have LD := Lib.hid (fun W (hW : Below B w0 W) t (hL : LookS W B p h N t) x hx h1 h2 => lead_any w0 B0 B p h N free x S M t W H0 hB hW hL hx h1 h2)
  rw [hn, Int.toNat_natCast] at hxi ha2 ⊢
  rw [hn] at HD
  have HX := Lib.hid hxi
  have HX0 := Lib.hid hx0
  have LL := Lib.hid L
  have HW := Lib.hid hw
  have z0 : w.cell? ⟨p, 0, none⟩ = some (.pointer (some ⟨h, 0, none⟩)) := by obtain ⟨b, v, h1, h2, z0, -⟩ := L.parts; exact z0
  have AL := Lib.hid (fun i => allN_len N M s a i)
  have hB0 : B ≤ w0.heap.size := by omega
  have hBs : B ≤ w.heap.size := Nat.le_trans hB0 hw.size
  generalize hK (M (a + 1)) = vk at *
  generalize hH (M (a + 1)) = vh at *
  generalize hM (M (a + 1)) = vm at *
  have hk3 : (vk == 2) = false := by simpa using hk2
  clear hok a2 H0 L hxi hx0 hB hn hk2
  go_enter Tryd.func26, Tryd.ntmps26
  go_wp2_with fail
  refine (HD.out _ hw).mono ?_
  rintro e w2 ⟨rfl, hg2⟩
  go_wp2_with fail
  obtain ⟨w3, hw3⟩ : ∃ w3, w3 = w2.alloc (.cells #[.int .u64 (M a : Int), .int .i64 vk, .int .i64 (n : Int), .int .u32 vh, .bool vm] 90) := ⟨_, rfl⟩
  have hg3 : Below w.heap.size w w3 := by rw [hw3]; exact hg2.alloc hg2.size _
  rw [← hw3]
  have hx3 : w3.heap[w2.heap.size]? = some (.cells #[.int .u64 (M a : Int), .int .i64 vk, .int .i64 (n : Int), .int .u32 vh, .bool vm] 90 (0, 0)) := by rw [hw3]; exact heap_alloc_new w2 _
  clear hw3
  have L3 : LookS w3 B p h N s := LL.out.later hg3
  have G3 : Below B w0 w3 := hw.trans (hg3.mono hBs)
  have K3 := Lib.hid (KeepsBut.below (T0 := 45) hg3)
  have HG3 := Lib.hid (hg3.mono hBs)
  generalize w2.heap.size = x at *
  refine (LD.out w3 G3 s L3 (M a) HX0.out (by omega) (by omega)).mono ?_
  rintro e w4 ⟨rfl, hl4, hg4, hk4, hf4⟩
  have hx4 := (hk4 x _ _ _ hx3 (by decide) (by decide) (by decide)).trans hx3
  have x1 := cellO hx4 1
  have x2 := cellO hx4 2
  simp at x1 x2
  have HL4 := Lib.hid (show LookS w4 B p h N (allN N M s a 0) from hl4)
  have HG4 := Lib.hid (HG3.out.trans hg4)
  have HF4 := Lib.hid (show ((allN N M s a 0).2.1.length = s.2.1.length → KeepsBut 45 w w4) from fun h => K3.out.trans (hf4 h))
  clear hl4 hg4 hk4 hf4 hx4 hx3 hg3 L3 HG3 K3 LL hg2 z0
  go_wp2_with fail
  all_goals (try (exfalso; go_light; omega))
  go_loopg [27] n (fun gg s27 wr => ∃ i : Nat, gg = n - i ∧ i ≤ n ∧ s27 = .int .i64 (i : Int) ∧ LookS wr B p h N (allN N M s a i) ∧ Below B w wr ∧ ((allN N M s a i).2.1.length = s.2.1.length → KeepsBut 45 w wr))
  case atStart => exact ⟨0, rfl, by omega, rfl, HL4.out, HG4.out, HF4.out⟩
  case round =>
    obtain ⟨i, hgi, hi, rfl, hl5, hg5, hf5⟩ := hrel
    have HGI := Lib.hid hgi
    have HL5 := Lib.hid hl5
    have HG5 := Lib.hid hg5
    have HF5 := Lib.hid hf5
    have z0 : wr.cell? ⟨p, 0, none⟩ = some (.pointer (some ⟨h, 0, none⟩)) := by obtain ⟨b, v, h1, h2, z0, -⟩ := hl5.parts; exact z0
    have G5 := Lib.hid (HW.out.trans hg5)
    have hBr : B ≤ wr.heap.size := Nat.le_trans hBs hg5.size
    clear hgi hl5 hg5 hf5
    by_cases hlt : i < n
    · go_wp2_with fail
      refine (GT.out wr G5.out i hlt).mono ?_
      rintro e w6 ⟨rfl, hg6⟩
      have hl6 : LookS w6 B p h N (allN N M s a i) := HL5.out.later hg6
      have G6 : Below B w0 w6 := G5.out.trans (hg6.mono hBr)
      have K6 := Lib.hid (KeepsBut.below (T0 := 45) hg6)
      have HG6 := Lib.hid (HG5.out.trans (hg6.mono hBr))
      clear hg6
      go_wp2_with fail
      have hb := AL.out i
      refine (LD.out w6 G6 _ hl6 (M (a + 2 + i)) (HX.out i hlt) (by omega) (by omega)).mono ?_
      rintro e w7 ⟨rfl, hl7, hg7, hk7, hf7⟩
      have HL7 := Lib.hid (show LookS w7 B p h N (allN N M s a (i + 1)) from hl7)
      have HG7 := Lib.hid (HG6.out.trans hg7)
      have HF7 := Lib.hid (show ((allN N M s a (i + 1)).2.1.length = s.2.1.length → KeepsBut 45 w w7) from fun hh => by
        have h1 := lead1_len N M (allN N M s a i) (M (a + 2 + i))
        have h2 : (allN N M s a (i + 1)).2.1.length = (lead1 N M (allN N M s a i) (M (a + 2 + i))).2.1.length := rfl
        exact (HF5.out (by omega)).trans (K6.out.trans (hf7 (by omega))))
      clear hl7 hg7 hk7 hf7
      go_wp2_with fail
      go_roundg (n - (i + 1))
      case measure => rw [HGI.out]; omega
      case rel => exact ⟨i + 1, rfl, by omega, by go_num, HL7.out, HG7.out, HF7.out⟩
    · have : i = n := by omega
      subst this
      go_wp2_with fail
      go_end0
      exact ⟨rfl, HL5.out, HG5.out, HF5.out⟩
end Go.Proofs.YtokgnedbbnnecaaDoor
namespace Go.Proofs.YtokgnedbbnnecaaDoor
open Go.RowKit
set_option linter.unusedVariables false
theorem LookAt.wait {w : World} {B p h N k : Nat} {T : Nat → Bool} {l : List Nat} {q : Bool} (H : LookAt w B p h N T l k q) : ∃ a cap, w.cell? ⟨p, 2, none⟩ = some (.slice a l.length cap) ∧ l.length ≤ cap ∧ cap ≤ maxLen := by
  obtain ⟨b, v, h1, h2, h3, h4, h5, h6⟩ := H
  have z2 := cellO h3 2
  simp at z2
  rcases h6 with ⟨rfl, hn⟩ | ⟨g, cap, cur, rfl, -, -, c1, c2, -⟩
  · exact ⟨none, 0, by rw [hn]; exact z2, by omega, by unfold maxLen; omega⟩
  · exact ⟨_, cap, z2, c1, c2⟩
theorem LookAt.pop {w : World} {B p h N k x : Nat} {T : Nat → Bool} {l : List Nat} {q : Bool} (H : LookAt w B p h N T (l ++ [x]) k q) :
    ∃ g cap, w.cell? ⟨p, 2, none⟩ = some (.slice (some ⟨g, 0, none⟩) (l.length + 1) cap) ∧ l.length + 1 ≤ cap ∧ cap ≤ maxLen ∧ w.cell? ⟨g, l.length, none⟩ = some (.int .u64 (x : Int)) ∧ w.frozen? ⟨p, 2, none⟩ = false ∧ B ≤ p ∧
      LookAt (w.setCell ⟨p, 2, none⟩ (.slice (some ⟨g, 0, none⟩) l.length cap)) B p h N T l k q := by
  obtain ⟨b, v, h1, h2, h3, h4, h5, h6⟩ := H
  have z2 := cellO h3 2
  simp at z2
  have f2 : w.frozen? ⟨p, 2, none⟩ = false := by unfold World.frozen?; rw [h3]; rfl
  rcases h6 with ⟨-, hn⟩ | ⟨g, cap, cur, rfl, hg, hcur, c1, c2, c3, c4⟩
  · simp at hn
  · have hlen : (l ++ [x]).length = l.length + 1 := by simp
    rw [hlen] at z2 c1 c4
    rw [Nat.mul_one] at c3 c4
    have hcl : cur[l.length]? = some (.int .u64 (x : Int)) := by
      have e1 : (cur.toList.take (l.length + 1))[l.length]? = (wordCells (l ++ [x]))[l.length]? := by rw [c4]
      rw [List.getElem?_take] at e1
      simp [wordCells] at e1
      exact e1
    have K := (KeepsBut.refl 74 w).setCell (a := ⟨p, 2, none⟩) (u := .slice (some ⟨g, 0, none⟩) l.length cap) ⟨_, _, h3⟩
    refine ⟨g, cap, z2, c1, c2, ?_, f2, h1, b, _, h1, h2, heap_setCell_same w p 2 _ _ _ h3, h4.keeps K (by decide) (by decide), by simp [wordCells], Or.inr ⟨g, cap, cur, rfl, hg, (K g _ _ _ hcur (by decide)).trans hcur, by omega, c2, by rw [Nat.mul_one]; exact c3, ?_⟩⟩
    · simp [World.cell?, hcur, hcl]
    · rw [Nat.mul_one]
      have e2 : (cur.toList.take (l.length + 1)).take l.length = (wordCells (l ++ [x])).take l.length := by rw [c4]
      rw [List.take_take, Nat.min_eq_left (by omega)] at e2
      rw [e2]; simp [wordCells]
theorem LookAt.loose {w : World} {B p h N k : Nat} {T : Nat → Bool} {l : List Nat} {q : Bool} (H : LookAt w B p h N T l k q) : w.cell? ⟨p, 4, none⟩ = some (.bool q) ∧ p < w.heap.size := by
  obtain ⟨b, v, h1, hp, -, -, -, -, z4, -⟩ := H.parts
  exact ⟨z4, hp⟩
def rootsN (N : Nat) (M : Nat → Nat) (rs : List Nat) : Nat → St
  | 0 => ((fun _ => false), [], 0)
  | i + 1 => lead1 N M (rootsN N M rs i) (rs.getD i 1)
theorem rootsN_len (N : Nat) (M : Nat → Nat) (rs : List Nat) (i : Nat) : (rootsN N M rs i).2.1.length ≤ i ∧ (rootsN N M rs i).2.2 ≤ 1048578 * i := by
  induction i with
  | zero => exact ⟨Nat.le_refl _, Nat.le_refl _⟩
  | succ i ih => have := lead1_len N M (rootsN N M rs i) (rs.getD i 1); unfold rootsN; omega
/-- one step: the last one that waits is gone through -/
def PopStep (N : Nat) (S : Nat → Bool) (M : Nat → Nat) (s t : St) : Prop :=
  s.2.2 ≤ 10000000000000000 ∧ ∃ a l, s.2.1 = l ++ [a * 2] ∧ l.length ≤ 1000000000 ∧ OKF N S M a ∧ t = allM N M (s.1, l, s.2.2) a
set_option maxRecDepth 100000 in
set_option maxHeartbeats 1000000 in
theorem reach_any (B0 h N free : Nat) (S : Nat → Bool) (M : Nat → Nat) (rs : List Nat) (st : Nat → St) (m rb cap : Nat) (w : World) (H0 : HeapAt w B0 h N free S M)
    (hrs : ∀ i, i < rs.length → OKW N S M (rs.getD i 1) ∧ w.cell? ⟨rb, i, none⟩ = some (.int .u64 (rs.getD i 1 : Int))) (hrb : rb < w.heap.size) (hcap : rs.length ≤ cap) (hcap2 : cap ≤ 1000000) (hs0 : st 0 = rootsN N M rs rs.length) (hst : ∀ i, i < m → PopStep N S M (st i) (st (i + 1))) (hend : (st m).2.1 = []) :
    Calls Tryd.prog 8 #[.pointer (some ⟨h, 0, none⟩), .slice (some ⟨rb, 0, none⟩) rs.length cap] w fun e w' => ∃ b, e = .returned (.tuple #[.pointer (some ⟨b, 0, none⟩), .int .i64 ((st m).2.2 : Int), .int .i64 0]) ∧ BitsAt w' w.heap.size b N (st m).1 ∧ Below w.heap.size w w' := by
  obtain ⟨B, hB⟩ : ∃ B, w.heap.size = B := ⟨_, rfl⟩
  have BG := Lib.hid (begin_any B0 h N free S M w H0)
  have LD := Lib.hid (fun p W (hW : Below B w W) t (hL : LookS W B p h N t) x hx h1 h2 => lead_any w B0 B p h N free x S M t W H0 hB hW hL hx h1 h2)
  have AA := Lib.hid (fun p W (hW : Below B w W) t (hL : LookS W B p h N t) a ha h1 h2 => all_any w B0 B p h N free a S M t W H0 hB hW hL ha h1 h2)
  have RS := Lib.hid hrs
  have ST := Lib.hid hst
  have S0 := Lib.hid hs0
  have EN := Lib.hid hend
  have RL := Lib.hid (rootsN_len N M rs)
  rw [hB] at BG hrb ⊢
  generalize hq : rs.length = q at *
  clear hrs hst hs0 hend H0 hB
  go_enter Tryd.func8, Tryd.ntmps8
  go_wp2_with fail
  refine BG.out.mono ?_
  rintro e w1 ⟨p, rfl, hl1, hg1⟩
  have HL1 := Lib.hid (show LookS w1 B p h N (rootsN N M rs 0) from hl1)
  have HG1 := Lib.hid hg1
  clear hl1 hg1
  go_wp2_with fail
  go_loopg [16] q (fun gg s16 wr => ∃ i : Nat, gg = q - i ∧ i ≤ q ∧ s16 = .int .i64 (i : Int) ∧ LookS wr B p h N (rootsN N M rs i) ∧ Below B w wr)
  case atStart => exact ⟨0, rfl, by omega, rfl, HL1.out, HG1.out⟩
  case round =>
    obtain ⟨i, hgi, hi, rfl, hl5, hg5⟩ := hrel
    have HGI := Lib.hid hgi
    have HL5 := Lib.hid hl5
    have HG5 := Lib.hid hg5
    clear hgi
    by_cases hlt : i < q
    · obtain ⟨r1, r2⟩ := RS.out i hlt
      have r3 : wr.cell? ⟨rb, i, none⟩ = some (.int .u64 (rs.getD i 1 : Int)) := (hg5.cell (p := ⟨rb, i, none⟩) hrb).trans r2
      have hE : rootsN N M rs (i + 1) = lead1 N M (rootsN N M rs i) (rs.getD i 1) := rfl
      generalize rs.getD i 1 = x at *
      have HE := Lib.hid hE
      have HR := Lib.hid r1
      have LDi := Lib.hid (LD.out p wr hg5 _ hl5 _ r1 (by have := RL.out i; omega) (by have := RL.out i; omega))
      clear r1 r2 hl5 hg5 hE
      go_wp2_with fail
      refine LDi.out.mono ?_
      rintro e w7 ⟨rfl, hl7, hg7, hk7, hf7⟩
      have HL7 := Lib.hid (show LookS w7 B p h N (rootsN N M rs (i + 1)) from by rw [HE.out]; exact hl7)
      have HG7 := Lib.hid (HG5.out.trans hg7)
      clear hl7 hg7 hk7 hf7
      go_wp2_with fail
      go_roundg (q - (i + 1))
      case measure => rw [HGI.out]; omega
      case rel => exact ⟨i + 1, rfl, by omega, by go_num, HL7.out, HG7.out⟩
    · have : i = q := by omega
      subst this
      have hl6 := hl5
      rw [← S0.out] at hl6
      have HL6 := Lib.hid hl6
      obtain ⟨wa, wcap, z2, -, -⟩ := hl6.wait
      clear hl5 hg5 hl6 HL5
      go_wp2_with fail
      go_loopg [10] m (fun gg s10 wr => ∃ i : Nat, gg = m - i ∧ i ≤ m ∧ s10 = .int .i64 ((st i).2.1.length : Int) ∧ LookS wr B p h N (st i) ∧ Below B w wr)
      case atStart => exact ⟨0, rfl, by omega, rfl, HL6.out, HG5.out⟩
      case round =>
        obtain ⟨j, hgj, hj, rfl, hl8, hg8⟩ := hrel
        have HGJ := Lib.hid hgj
        have HL8 := Lib.hid hl8
        have HG8 := Lib.hid hg8
        obtain ⟨zl, hpl⟩ := hl8.loose
        clear hgj hl8 hg8 HL6 HG5
        by_cases hlt : j < m
        · obtain ⟨hk, a, l, hl, hll, ha, hnext⟩ := ST.out j hlt
          have hl9 := HL8.out
          unfold LookS at hl9
          rw [hl] at hl9
          obtain ⟨g, cp, y2, y3, y4, y5, y6, y7, y8⟩ := hl9.pop
          rw [hl, List.length_append, List.length_singleton]
          have HJ := Lib.hid hnext
          have HA := Lib.hid ha
          have HY8 := Lib.hid (show LookS (wr.setCell ⟨p, 2, none⟩ (.slice (some ⟨g, 0, none⟩) l.length cp)) B p h N ((st j).1, l, (st j).2.2) from y8)
          have HG9 := Lib.hid (show Below B w (wr.setCell ⟨p, 2, none⟩ (.slice (some ⟨g, 0, none⟩) l.length cp)) from HG8.out.setCell y7 _)
          have AAj := Lib.hid (AA.out p _ HG9.out _ HY8.out a ha (by simp only []; omega) hk)
          unfold maxLen at y4
          clear hl9 hnext ha y8 hl
          generalize l.length = ln at *
          go_wp2_with fail
          all_goals (try (exfalso; go_light; omega))
          refine AAj.out.mono ?_
          rintro e w9 ⟨rfl, hl9, hg9, hf9⟩
          rw [← HJ.out] at hl9
          have HL9 := Lib.hid hl9
          have HGA := Lib.hid (HG9.out.trans hg9)
          obtain ⟨wb, wbcap, z9, -, -⟩ := hl9.wait
          clear hl9 hg9 hf9
          go_wp2_with fail
          all_goals (try (exfalso; go_light; omega))
          go_roundg (m - (j + 1))
          case measure => rw [HGJ.out]; omega
          case rel => exact ⟨j + 1, rfl, by omega, rfl, HL9.out, HGA.out⟩
        · have : j = m := by omega
          subst this
          have he := EN.out
          rw [he, List.length_nil]
          obtain ⟨b, v, k1, k2, z0, z1, z2', z3, z4, f4, hb, -⟩ := HL8.out.parts
          have HB := Lib.hid hb
          clear hb he
          go_wp2_with fail
          all_goals (try (exfalso; go_light; omega))
          go_quiet (fail)
          all_goals (try (exfalso; go_light; omega))
          go_wp2_with fail
          refine bodyPost_ret (v := .tuple #[.pointer (some ⟨b, 0, none⟩), .int .i64 ((st j).2.2 : Int), .int .i64 0]) (by simp [results, Tryd.results8, go_sem]) rfl ?_
          exact ⟨b, rfl, HB.out.of_heap rfl, ⟨HG8.out.os, HG8.out.tape, HG8.out.output, HG8.out.size, HG8.out.block⟩⟩
end Go.Proofs.YtokgnedbbnnecaaDoor
namespace Go.Proofs.YtokgnedbbnnecaaDoor
open Go.RowKit
set_option linter.unusedVariables false
theorem OwnsW.mono {w : World} {B C : Nat} {v : Value} {l : List Nat} (h : OwnsW w B v l) (hc : C ≤ B) : OwnsW w C v l := by
  obtain ⟨h0, h | ⟨g, cap, cur, h1, h2, h3⟩⟩ := h
  · exact ⟨h0, Or.inl h⟩
  · exact ⟨h0, Or.inr ⟨g, cap, cur, h1, by omega, h3⟩⟩
theorem LookAt.row {w : World} {B p h N k : Nat} {T : Nat → Bool} {l : List Nat} {q : Bool} (H : LookAt w B p h N T l k q) (hl : l ≠ []) :
    ∃ g cap, w.cell? ⟨p, 2, none⟩ = some (.slice (some ⟨g, 0, none⟩) l.length cap) ∧ l.length ≤ cap ∧ cap ≤ maxLen ∧ (∃ c, w.heap[g]? = some (.cells c 46 (0, 0))) ∧ (∀ (i x : Nat), l[i]? = some x → w.cell? ⟨g, i, none⟩ = some (.int .u64 (x : Int))) := by
  obtain ⟨b, v, h1, h2, h3, h4, h5, h6⟩ := H
  have z2 := cellO h3 2
  simp at z2
  rcases h6 with ⟨-, hn⟩ | ⟨g, cap, cur, rfl, hg, hcur, c1, c2, c3, c4⟩
  · exact absurd (List.eq_nil_of_length_eq_zero hn) hl
  · refine ⟨g, cap, z2, c1, c2, ⟨cur, hcur⟩, fun i x hx => ?_⟩
    rw [Nat.mul_one] at c4
    obtain ⟨hi, hx2⟩ := List.getElem?_eq_some_iff.1 hx
    have e1 : (cur.toList.take l.length)[i]? = (wordCells l)[i]? := by rw [c4]
    rw [List.getElem?_take] at e1
    simp [wordCells, hi, hx2] at e1
    simp [World.cell?, hcur, e1]
theorem lead1_pre (N : Nat) (M : Nat → Nat) (s : St) (x : Nat) : s.2.1 <+: (lead1 N M s x).2.1 := by
  unfold lead1
  split
  · exact List.prefix_rfl
  · split
    · exact List.prefix_rfl
    · exact List.prefix_append _ _
theorem allN_pre (N : Nat) (M : Nat → Nat) (s : St) (a i : Nat) : s.2.1 <+: (allN N M s a i).2.1 := by
  induction i with
  | zero => exact lead1_pre N M s _
  | succ i ih => exact ih.trans (lead1_pre N M _ _)
theorem seq_pre (N : Nat) (M : Nat → Nat) (st : Nat → St) (A : Nat → Nat) (m : Nat) (h : ∀ t, t < m → st (t + 1) = allM N M (st t) (A t)) (t d : Nat) (hd : t + d ≤ m) : (st t).2.1 <+: (st (t + d)).2.1 := by
  induction d with
  | zero => exact List.prefix_rfl
  | succ d ih =>
    refine (ih (by omega)).trans ?_
    rw [show t + (d + 1) = t + d + 1 by omega, h (t + d) (by omega)]
    exact allN_pre N M _ _ _
end Go.Proofs.YtokgnedbbnnecaaDoor
