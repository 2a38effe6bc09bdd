/- The least error of what is too great. -/
import Derived.Test.YtpfgidhchjcomaaMeDepth
import Derived.Test.YtpfgidhchjcomaaMeSmall
namespace Go.Proofs.Ytpfgidhchjcomaa
open Go.RowKit
set_option linter.unusedVariables false
/-- all blocks but those in S are as they were -/
structure Ex (S : Nat → Prop) (w w' : World) : Prop where
  os : w'.os = w.os
  tape : w'.tape = w.tape
  output : w'.output = w.output
  size : w.heap.size ≤ w'.heap.size
  block : ∀ k, k < w.heap.size → ¬ S k → w'.heap[k]? = w.heap[k]?
theorem Ex.refl (S : Nat → Prop) (w : World) : Ex S w w := ⟨rfl, rfl, rfl, Nat.le_refl _, fun _ _ _ => rfl⟩
theorem Ex.trans {S : Nat → Prop} {a b c : World} (h : Ex S a b) (g : Ex S b c) : Ex S a c := ⟨g.os.trans h.os, g.tape.trans h.tape, g.output.trans h.output, Nat.le_trans h.size g.size, fun k hk hs => (g.block k (Nat.lt_of_lt_of_le hk h.size) hs).trans (h.block k hk hs)⟩
theorem Ex.of_below {S : Nat → Prop} {a b : World} (h : Below a.heap.size a b) : Ex S a b := ⟨h.os, h.tape, h.output, h.size, fun k hk _ => h.block k hk⟩
theorem Ex.mono {S T : Nat → Prop} {a b : World} (h : Ex S a b) (hs : ∀ k, k < a.heap.size → S k → T k) : Ex T a b := ⟨h.os, h.tape, h.output, h.size, fun k hk ht => h.block k hk fun s => ht (hs k hk s)⟩
theorem Ex.set {p o : Nat} (w : World) (u : Value) : Ex (· = p) w (w.setCell ⟨p, o, none⟩ u) := ⟨rfl, rfl, rfl, by simp, fun k _ h => Below.heap_setCell w ⟨p, o, none⟩ u k h⟩
theorem Ex.below {S : Nat → Prop} {B : Nat} {w w' : World} (h : Ex S w w') (hS : ∀ k, k < B → ¬ S k) (hB : B ≤ w.heap.size) : Below B w w' := ⟨h.os, h.tape, h.output, h.size, fun k hk => h.block k (Nat.lt_of_lt_of_le hk hB) (hS k hk)⟩
def szN (n : Nd) (a : Int) : Int :=
  if n.kind = 2 ∧ 4096 < n.name.size then min a 2
  else if n.kind = 3 ∧ 64 < n.name.size then min a 2
  else if smB n.num = false ∨ n.num = -4611686018427387904 then min a 9 else a
/-- a call that has turned cell p alone -/
def SzP (p : Nat) (w w' : World) (v : Int) : Prop := Ex (· = p) w w' ∧ w'.cell? ⟨p, 0, none⟩ = some (.int .i64 v) ∧ w'.frozen? ⟨p, 0, none⟩ = false
theorem SzP.of {p : Nat} {w w1 : World} {a v : Int} (hb : Below w.heap.size w w1) (hp : w.cell? ⟨p, 0, none⟩ = some (.int .i64 a)) (hf : w.frozen? ⟨p, 0, none⟩ = false) : SzP p w (w1.setCell ⟨p, 0, none⟩ (.int .i64 v)) v := by
  have hl := lt_of_cell hp
  have h1 : w1.cell? ⟨p, 0, none⟩ = some (.int .i64 a) := (hb.cell (p := ⟨p, 0, none⟩) hl).trans hp
  have h2 : w1.frozen? ⟨p, 0, none⟩ = false := (hb.frozen (p := ⟨p, 0, none⟩) hl).trans hf
  exact ⟨(Ex.of_below hb).trans (Ex.set w1 _), World.cell?_setCell_same _ _ _ h1, by rw [World.frozen?_setCell]; exact h2⟩
theorem SzP.keep {p : Nat} {w w1 : World} {a : Int} (hb : Below w.heap.size w w1) (hp : w.cell? ⟨p, 0, none⟩ = some (.int .i64 a)) (hf : w.frozen? ⟨p, 0, none⟩ = false) : SzP p w w1 a := by
  have hl := lt_of_cell hp
  exact ⟨Ex.of_below hb, (hb.cell (p := ⟨p, 0, none⟩) hl).trans hp, (hb.frozen (p := ⟨p, 0, none⟩) hl).trans hf⟩
set_option maxRecDepth 100000 in
set_option maxHeartbeats 4000000 in
theorem sized1_any (p : Nat) (n : Nd) (kv nv : Value) (a : Int) (w : World) (hp : w.cell? ⟨p, 0, none⟩ = some (.int .i64 a)) (hf : w.frozen? ⟨p, 0, none⟩ = false) (hsz : n.name.size ≤ maxLen) :
    Calls Try.prog 40 #[ndV n kv nv, .pointer (some ⟨p, 0, none⟩)] w fun e w' => e = .returned (.bool true) ∧ SzP p w w' (szN n a) := by
  have SA := Lib.hid (fun W => small_any n.num W)
  have hl := lt_of_cell hp
  have HK := Lib.hid (fun w1 hb => SzP.keep (p := p) (w := w) (w1 := w1) (a := a) hb hp hf)
  have HO := Lib.hid (fun w1 v hb => SzP.of (p := p) (w := w) (w1 := w1) (a := a) (v := v) hb hp hf)
  have HN := Lib.hid (show szN n a = (if n.kind = 2 ∧ 4096 < n.name.size then min a 2 else if n.kind = 3 ∧ 64 < n.name.size then min a 2 else if smB n.num = false ∨ n.num = -4611686018427387904 then min a 9 else a) from rfl)
  rw [HN.out]
  clear HN
  obtain ⟨k, nm, nu, ks, ns, at_⟩ := n
  replace hsz : nm.size ≤ 9223372036854775807 := hsz
  replace SA : Hid (∀ W, Calls Try.prog 41 #[.int .i64 nu] W fun e w' => (∃ x : Int, e = .returned (.tuple #[.int .u64 x, .int .i64 (if smB nu = true then 0 else 9)])) ∧ Below W.heap.size W w') := SA
  show Calls Try.prog 40 #[.agg #[.int .i64 k, .string nm, .int .i64 nu, kv, nv, .int .i64 at_], .pointer (some ⟨p, 0, none⟩)] w fun e w' => e = .returned (.bool true) ∧ SzP p w w' (if k = 2 ∧ 4096 < nm.size then min a 2 else if k = 3 ∧ 64 < nm.size then min a 2 else if smB nu = false ∨ nu = -4611686018427387904 then min a 9 else a)
  generalize hz : smB nu = z at *
  by_cases c1 : k = 2 ∧ 4096 < nm.size
  · rw [if_pos c1]
    obtain ⟨rfl, c1⟩ := c1
    cases z
    all_goals
      go_enter Try.func40, Try.ntmps40
      go_wp2_with fail
      refine (SA.out _).mono ?_
      rintro e w1 ⟨⟨x, rfl⟩, hg⟩
      have hs1 := hg.size
      have hs0 : w.heap.size < w1.heap.size := by have := hg.size; simp at this; omega
      have k0 : w1.cell? ⟨w.heap.size, 0, none⟩ = some (.int .i64 2) := (hg.cell (p := ⟨w.heap.size, 0, none⟩) (by simp)).trans (by simp)
      have k1 : w1.cell? ⟨w.heap.size, 1, none⟩ = some (.string nm) := (hg.cell (p := ⟨w.heap.size, 1, none⟩) (by simp)).trans (by simp)
      have k2 : w1.cell? ⟨w.heap.size, 2, none⟩ = some (.int .i64 nu) := (hg.cell (p := ⟨w.heap.size, 2, none⟩) (by simp)).trans (by simp)
      have HB := Lib.hid (show Below w.heap.size w w1 from ((Below.refl _ _).alloc (Nat.le_refl _) _).trans (hg.mono (by simp)))
      have p1 : w1.cell? ⟨p, 0, none⟩ = some (.int .i64 a) := (HB.out.cell (p := ⟨p, 0, none⟩) hl).trans hp
      have f1 : w1.frozen? ⟨p, 0, none⟩ = false := (HB.out.frozen (p := ⟨p, 0, none⟩) hl).trans hf
      clear hg
      go_wp2_with fail
      go_ret
      exact ⟨rfl, HO.out _ _ HB.out⟩
  by_cases c2 : k = 3 ∧ 64 < nm.size
  · rw [if_neg c1, if_pos c2]
    obtain ⟨rfl, c2⟩ := c2
    clear c1
    cases z
    all_goals
      go_enter Try.func40, Try.ntmps40
      go_wp2_with fail
      refine (SA.out _).mono ?_
      rintro e w1 ⟨⟨x, rfl⟩, hg⟩
      have hs1 := hg.size
      have hs0 : w.heap.size < w1.heap.size := by have := hg.size; simp at this; omega
      have k0 : w1.cell? ⟨w.heap.size, 0, none⟩ = some (.int .i64 3) := (hg.cell (p := ⟨w.heap.size, 0, none⟩) (by simp)).trans (by simp)
      have k1 : w1.cell? ⟨w.heap.size, 1, none⟩ = some (.string nm) := (hg.cell (p := ⟨w.heap.size, 1, none⟩) (by simp)).trans (by simp)
      have k2 : w1.cell? ⟨w.heap.size, 2, none⟩ = some (.int .i64 nu) := (hg.cell (p := ⟨w.heap.size, 2, none⟩) (by simp)).trans (by simp)
      have HB := Lib.hid (show Below w.heap.size w w1 from ((Below.refl _ _).alloc (Nat.le_refl _) _).trans (hg.mono (by simp)))
      have p1 : w1.cell? ⟨p, 0, none⟩ = some (.int .i64 a) := (HB.out.cell (p := ⟨p, 0, none⟩) hl).trans hp
      have f1 : w1.frozen? ⟨p, 0, none⟩ = false := (HB.out.frozen (p := ⟨p, 0, none⟩) hl).trans hf
      clear hg
      go_wp2_with fail
      go_ret
      exact ⟨rfl, HO.out _ _ HB.out⟩
  rw [if_neg c1, if_neg c2]
  by_cases d2 : k = 2
  · subst d2
    have c1' : ¬ 4096 < nm.size := fun h => c1 ⟨rfl, h⟩
    clear c1 c2
    cases z
    · rw [if_pos (Or.inl rfl)]
      go_enter Try.func40, Try.ntmps40
      go_wp2_with fail
      refine (SA.out _).mono ?_
      rintro e w1 ⟨⟨x, rfl⟩, hg⟩
      have hs1 := hg.size
      have hs0 : w.heap.size < w1.heap.size := by have := hg.size; simp at this; omega
      have k0 : w1.cell? ⟨w.heap.size, 0, none⟩ = some (.int .i64 2) := (hg.cell (p := ⟨w.heap.size, 0, none⟩) (by simp)).trans (by simp)
      have k1 : w1.cell? ⟨w.heap.size, 1, none⟩ = some (.string nm) := (hg.cell (p := ⟨w.heap.size, 1, none⟩) (by simp)).trans (by simp)
      have k2 : w1.cell? ⟨w.heap.size, 2, none⟩ = some (.int .i64 nu) := (hg.cell (p := ⟨w.heap.size, 2, none⟩) (by simp)).trans (by simp)
      have HB := Lib.hid (show Below w.heap.size w w1 from ((Below.refl _ _).alloc (Nat.le_refl _) _).trans (hg.mono (by simp)))
      have p1 : w1.cell? ⟨p, 0, none⟩ = some (.int .i64 a) := (HB.out.cell (p := ⟨p, 0, none⟩) hl).trans hp
      have f1 : w1.frozen? ⟨p, 0, none⟩ = false := (HB.out.frozen (p := ⟨p, 0, none⟩) hl).trans hf
      clear hg
      go_wp2_with fail
      go_ret
      exact ⟨rfl, HO.out _ _ HB.out⟩
    · by_cases c3 : nu = -4611686018427387904
      · subst c3
        rw [if_pos (Or.inr rfl)]
        go_enter Try.func40, Try.ntmps40
        go_wp2_with fail
        refine (SA.out _).mono ?_
        rintro e w1 ⟨⟨x, rfl⟩, hg⟩
        have hs1 := hg.size
        have hs0 : w.heap.size < w1.heap.size := by have := hg.size; simp at this; omega
        have k0 : w1.cell? ⟨w.heap.size, 0, none⟩ = some (.int .i64 2) := (hg.cell (p := ⟨w.heap.size, 0, none⟩) (by simp)).trans (by simp)
        have k1 : w1.cell? ⟨w.heap.size, 1, none⟩ = some (.string nm) := (hg.cell (p := ⟨w.heap.size, 1, none⟩) (by simp)).trans (by simp)
        have k2 : w1.cell? ⟨w.heap.size, 2, none⟩ = some (.int .i64 (-4611686018427387904)) := (hg.cell (p := ⟨w.heap.size, 2, none⟩) (by simp)).trans (by simp)
        have HB := Lib.hid (show Below w.heap.size w w1 from ((Below.refl _ _).alloc (Nat.le_refl _) _).trans (hg.mono (by simp)))
        have p1 : w1.cell? ⟨p, 0, none⟩ = some (.int .i64 a) := (HB.out.cell (p := ⟨p, 0, none⟩) hl).trans hp
        have f1 : w1.frozen? ⟨p, 0, none⟩ = false := (HB.out.frozen (p := ⟨p, 0, none⟩) hl).trans hf
        clear hg
        go_wp2_with fail
        go_ret
        exact ⟨rfl, HO.out _ _ HB.out⟩
      · rw [if_neg (by simp [c3])]
        have e3 : (nu == -4611686018427387904) = false := by simpa using c3
        clear c3
        go_enter Try.func40, Try.ntmps40
        go_wp2_with fail
        refine (SA.out _).mono ?_
        rintro e w1 ⟨⟨x, rfl⟩, hg⟩
        have hs1 := hg.size
        have hs0 : w.heap.size < w1.heap.size := by have := hg.size; simp at this; omega
        have k0 : w1.cell? ⟨w.heap.size, 0, none⟩ = some (.int .i64 2) := (hg.cell (p := ⟨w.heap.size, 0, none⟩) (by simp)).trans (by simp)
        have k1 : w1.cell? ⟨w.heap.size, 1, none⟩ = some (.string nm) := (hg.cell (p := ⟨w.heap.size, 1, none⟩) (by simp)).trans (by simp)
        have k2 : w1.cell? ⟨w.heap.size, 2, none⟩ = some (.int .i64 nu) := (hg.cell (p := ⟨w.heap.size, 2, none⟩) (by simp)).trans (by simp)
        have HB := Lib.hid (show Below w.heap.size w w1 from ((Below.refl _ _).alloc (Nat.le_refl _) _).trans (hg.mono (by simp)))
        have p1 : w1.cell? ⟨p, 0, none⟩ = some (.int .i64 a) := (HB.out.cell (p := ⟨p, 0, none⟩) hl).trans hp
        have f1 : w1.frozen? ⟨p, 0, none⟩ = false := (HB.out.frozen (p := ⟨p, 0, none⟩) hl).trans hf
        clear hg
        go_wp2_with fail
        go_ret
        exact ⟨rfl, HK.out _ HB.out⟩
  by_cases d3 : k = 3
  · subst d3
    have c2' : ¬ 64 < nm.size := fun h => c2 ⟨rfl, h⟩
    clear c1 c2 d2
    cases z
    · rw [if_pos (Or.inl rfl)]
      go_enter Try.func40, Try.ntmps40
      go_wp2_with fail
      refine (SA.out _).mono ?_
      rintro e w1 ⟨⟨x, rfl⟩, hg⟩
      have hs1 := hg.size
      have hs0 : w.heap.size < w1.heap.size := by have := hg.size; simp at this; omega
      have k0 : w1.cell? ⟨w.heap.size, 0, none⟩ = some (.int .i64 3) := (hg.cell (p := ⟨w.heap.size, 0, none⟩) (by simp)).trans (by simp)
      have k1 : w1.cell? ⟨w.heap.size, 1, none⟩ = some (.string nm) := (hg.cell (p := ⟨w.heap.size, 1, none⟩) (by simp)).trans (by simp)
      have k2 : w1.cell? ⟨w.heap.size, 2, none⟩ = some (.int .i64 nu) := (hg.cell (p := ⟨w.heap.size, 2, none⟩) (by simp)).trans (by simp)
      have HB := Lib.hid (show Below w.heap.size w w1 from ((Below.refl _ _).alloc (Nat.le_refl _) _).trans (hg.mono (by simp)))
      have p1 : w1.cell? ⟨p, 0, none⟩ = some (.int .i64 a) := (HB.out.cell (p := ⟨p, 0, none⟩) hl).trans hp
      have f1 : w1.frozen? ⟨p, 0, none⟩ = false := (HB.out.frozen (p := ⟨p, 0, none⟩) hl).trans hf
      clear hg
      go_wp2_with fail
      go_ret
      exact ⟨rfl, HO.out _ _ HB.out⟩
    · by_cases c3 : nu = -4611686018427387904
      · subst c3
        rw [if_pos (Or.inr rfl)]
        go_enter Try.func40, Try.ntmps40
        go_wp2_with fail
        refine (SA.out _).mono ?_
        rintro e w1 ⟨⟨x, rfl⟩, hg⟩
        have hs1 := hg.size
        have hs0 : w.heap.size < w1.heap.size := by have := hg.size; simp at this; omega
        have k0 : w1.cell? ⟨w.heap.size, 0, none⟩ = some (.int .i64 3) := (hg.cell (p := ⟨w.heap.size, 0, none⟩) (by simp)).trans (by simp)
        have k1 : w1.cell? ⟨w.heap.size, 1, none⟩ = some (.string nm) := (hg.cell (p := ⟨w.heap.size, 1, none⟩) (by simp)).trans (by simp)
        have k2 : w1.cell? ⟨w.heap.size, 2, none⟩ = some (.int .i64 (-4611686018427387904)) := (hg.cell (p := ⟨w.heap.size, 2, none⟩) (by simp)).trans (by simp)
        have HB := Lib.hid (show Below w.heap.size w w1 from ((Below.refl _ _).alloc (Nat.le_refl _) _).trans (hg.mono (by simp)))
        have p1 : w1.cell? ⟨p, 0, none⟩ = some (.int .i64 a) := (HB.out.cell (p := ⟨p, 0, none⟩) hl).trans hp
        have f1 : w1.frozen? ⟨p, 0, none⟩ = false := (HB.out.frozen (p := ⟨p, 0, none⟩) hl).trans hf
        clear hg
        go_wp2_with fail
        go_ret
        exact ⟨rfl, HO.out _ _ HB.out⟩
      · rw [if_neg (by simp [c3])]
        have e3 : (nu == -4611686018427387904) = false := by simpa using c3
        clear c3
        go_enter Try.func40, Try.ntmps40
        go_wp2_with fail
        refine (SA.out _).mono ?_
        rintro e w1 ⟨⟨x, rfl⟩, hg⟩
        have hs1 := hg.size
        have hs0 : w.heap.size < w1.heap.size := by have := hg.size; simp at this; omega
        have k0 : w1.cell? ⟨w.heap.size, 0, none⟩ = some (.int .i64 3) := (hg.cell (p := ⟨w.heap.size, 0, none⟩) (by simp)).trans (by simp)
        have k1 : w1.cell? ⟨w.heap.size, 1, none⟩ = some (.string nm) := (hg.cell (p := ⟨w.heap.size, 1, none⟩) (by simp)).trans (by simp)
        have k2 : w1.cell? ⟨w.heap.size, 2, none⟩ = some (.int .i64 nu) := (hg.cell (p := ⟨w.heap.size, 2, none⟩) (by simp)).trans (by simp)
        have HB := Lib.hid (show Below w.heap.size w w1 from ((Below.refl _ _).alloc (Nat.le_refl _) _).trans (hg.mono (by simp)))
        have p1 : w1.cell? ⟨p, 0, none⟩ = some (.int .i64 a) := (HB.out.cell (p := ⟨p, 0, none⟩) hl).trans hp
        have f1 : w1.frozen? ⟨p, 0, none⟩ = false := (HB.out.frozen (p := ⟨p, 0, none⟩) hl).trans hf
        clear hg
        go_wp2_with fail
        go_ret
        exact ⟨rfl, HK.out _ HB.out⟩
  have g2 : (k == 2) = false := by simpa using d2
  have g3 : (k == 3) = false := by simpa using d3
  clear c1 c2 d2 d3
  cases z
  · rw [if_pos (Or.inl rfl)]
    go_enter Try.func40, Try.ntmps40
    go_wp2_with fail
    refine (SA.out _).mono ?_
    rintro e w1 ⟨⟨x, rfl⟩, hg⟩
    have hs1 := hg.size
    have hs0 : w.heap.size < w1.heap.size := by have := hg.size; simp at this; omega
    have k0 : w1.cell? ⟨w.heap.size, 0, none⟩ = some (.int .i64 k) := (hg.cell (p := ⟨w.heap.size, 0, none⟩) (by simp)).trans (by simp)
    have k1 : w1.cell? ⟨w.heap.size, 1, none⟩ = some (.string nm) := (hg.cell (p := ⟨w.heap.size, 1, none⟩) (by simp)).trans (by simp)
    have k2 : w1.cell? ⟨w.heap.size, 2, none⟩ = some (.int .i64 nu) := (hg.cell (p := ⟨w.heap.size, 2, none⟩) (by simp)).trans (by simp)
    have HB := Lib.hid (show Below w.heap.size w w1 from ((Below.refl _ _).alloc (Nat.le_refl _) _).trans (hg.mono (by simp)))
    have p1 : w1.cell? ⟨p, 0, none⟩ = some (.int .i64 a) := (HB.out.cell (p := ⟨p, 0, none⟩) hl).trans hp
    have f1 : w1.frozen? ⟨p, 0, none⟩ = false := (HB.out.frozen (p := ⟨p, 0, none⟩) hl).trans hf
    clear hg
    go_wp2_with fail
    go_ret
    exact ⟨rfl, HO.out _ _ HB.out⟩
  · by_cases c3 : nu = -4611686018427387904
    · subst c3
      rw [if_pos (Or.inr rfl)]
      go_enter Try.func40, Try.ntmps40
      go_wp2_with fail
      refine (SA.out _).mono ?_
      rintro e w1 ⟨⟨x, rfl⟩, hg⟩
      have hs1 := hg.size
      have hs0 : w.heap.size < w1.heap.size := by have := hg.size; simp at this; omega
      have k0 : w1.cell? ⟨w.heap.size, 0, none⟩ = some (.int .i64 k) := (hg.cell (p := ⟨w.heap.size, 0, none⟩) (by simp)).trans (by simp)
      have k1 : w1.cell? ⟨w.heap.size, 1, none⟩ = some (.string nm) := (hg.cell (p := ⟨w.heap.size, 1, none⟩) (by simp)).trans (by simp)
      have k2 : w1.cell? ⟨w.heap.size, 2, none⟩ = some (.int .i64 (-4611686018427387904)) := (hg.cell (p := ⟨w.heap.size, 2, none⟩) (by simp)).trans (by simp)
      have HB := Lib.hid (show Below w.heap.size w w1 from ((Below.refl _ _).alloc (Nat.le_refl _) _).trans (hg.mono (by simp)))
      have p1 : w1.cell? ⟨p, 0, none⟩ = some (.int .i64 a) := (HB.out.cell (p := ⟨p, 0, none⟩) hl).trans hp
      have f1 : w1.frozen? ⟨p, 0, none⟩ = false := (HB.out.frozen (p := ⟨p, 0, none⟩) hl).trans hf
      clear hg
      go_wp2_with fail
      go_ret
      exact ⟨rfl, HO.out _ _ HB.out⟩
    · rw [if_neg (by simp [c3])]
      have e3 : (nu == -4611686018427387904) = false := by simpa using c3
      clear c3
      go_enter Try.func40, Try.ntmps40
      go_wp2_with fail
      refine (SA.out _).mono ?_
      rintro e w1 ⟨⟨x, rfl⟩, hg⟩
      have hs1 := hg.size
      have hs0 : w.heap.size < w1.heap.size := by have := hg.size; simp at this; omega
      have k0 : w1.cell? ⟨w.heap.size, 0, none⟩ = some (.int .i64 k) := (hg.cell (p := ⟨w.heap.size, 0, none⟩) (by simp)).trans (by simp)
      have k1 : w1.cell? ⟨w.heap.size, 1, none⟩ = some (.string nm) := (hg.cell (p := ⟨w.heap.size, 1, none⟩) (by simp)).trans (by simp)
      have k2 : w1.cell? ⟨w.heap.size, 2, none⟩ = some (.int .i64 nu) := (hg.cell (p := ⟨w.heap.size, 2, none⟩) (by simp)).trans (by simp)
      have HB := Lib.hid (show Below w.heap.size w w1 from ((Below.refl _ _).alloc (Nat.le_refl _) _).trans (hg.mono (by simp)))
      have p1 : w1.cell? ⟨p, 0, none⟩ = some (.int .i64 a) := (HB.out.cell (p := ⟨p, 0, none⟩) hl).trans hp
      have f1 : w1.frozen? ⟨p, 0, none⟩ = false := (HB.out.frozen (p := ⟨p, 0, none⟩) hl).trans hf
      clear hg
      go_wp2_with fail
      go_ret
      exact ⟨rfl, HK.out _ HB.out⟩
/-- THE WALK over all nodes -/
def szW : Nat → List Nd → Int → Int
  | 0, _, a => a
  | d + 1, l, a => l.foldl (fun a n => szW d n.kids (szN n a)) a
theorem Ex.cell {S : Nat → Prop} {w w' : World} (h : Ex S w w') {b o : Nat} (hb : b < w.heap.size) (hs : ¬ S b) : w'.cell? ⟨b, o, none⟩ = w.cell? ⟨b, o, none⟩ := World.cell?_of_block (a := ⟨b, o, none⟩) (h.block b hb hs)
theorem NodesX.ex {x : Nat → Prop} {S : Nat → Prop} {w w' : World} {d : Nat} {v : Value} {l : List Nd} (h : NodesX x d w v l) (he : Ex S w w') (hs : ∀ k, x k → ¬ S k) : NodesX x d w' v l := h.keep fun k hk hx => he.block k hk (hs k hx)
theorem StrsX.ex {x : Nat → Prop} {S : Nat → Prop} {w w' : World} {v : Value} {l : List ByteArray} (h : StrsX x w v l) (he : Ex S w w') (hs : ∀ k, x k → ¬ S k) : StrsX x w' v l := h.keep fun k hk hx => he.block k hk (hs k hx)
theorem SzP.trans {p : Nat} {a b c : World} {u v : Int} (h : SzP p a b u) (g : SzP p b c v) : SzP p a c v := ⟨h.1.trans g.1, g.2⟩
set_option maxRecDepth 100000 in
set_option maxHeartbeats 8000000 in
theorem walk_step (p : Nat) (x : Nat → Prop) (hx : ¬ x p) (d : Nat) (v : Value) (l : List Nd) (a : Int) (w : World) (h : NodesX x (d + 1) w v l) (hp : w.cell? ⟨p, 0, none⟩ = some (.int .i64 a)) (hf : w.frozen? ⟨p, 0, none⟩ = false)
    (H : ∀ k kv' W a', k ∈ l → NodesX x d W kv' k.kids → W.cell? ⟨p, 0, none⟩ = some (.int .i64 a') → W.frozen? ⟨p, 0, none⟩ = false → Calls Try.prog 66 #[kv', .func (.func 40) #[] #[.pointer (some ⟨p, 0, none⟩)]] W fun e w' => e = .returned (.bool true) ∧ SzP p W w' (szW d k.kids a')) :
    Calls Try.prog 66 #[v, .func (.func 40) #[] #[.pointer (some ⟨p, 0, none⟩)]] w fun e w' => e = .returned (.bool true) ∧ SzP p w w' (szW (d + 1) l a) := by
  obtain ⟨va, c, rfl, h1, h2, -⟩ := h.shape
  have HS := Lib.hid h
  have HH := Lib.hid H
  have hlp := lt_of_cell hp
  have hxp : ∀ k, x k → ¬ k = p := fun k hk e => hx (e ▸ hk)
  have HX := Lib.hid hxp
  have hn : l.length ≤ 9223372036854775807 := Nat.le_trans h1 h2
  have HD : Hid (szW (d + 1) l a = (l.take l.length).foldl (fun a n => szW d n.kids (szN n a)) a) := Lib.hid (by rw [List.take_length]; rfl)
  have HE := Lib.hid (fun i y hy => take_foldl (fun a (n : Nd) => szW d n.kids (szN n a)) a l i y hy)
  have HZ : Hid ((l.take 0).foldl (fun a n => szW d n.kids (szN n a)) a = a) := Lib.hid rfl
  rw [HD.out]
  clear HD h H hxp hx
  generalize hff : (fun i => (l.take i).foldl (fun a n => szW d n.kids (szN n a)) a) = ff at *
  have e1 : ∀ i, (l.take i).foldl (fun a n => szW d n.kids (szN n a)) a = ff i := fun i => by rw [← hff]
  replace HE : Hid (∀ i y, l[i]? = some y → ff (i + 1) = szW d y.kids (szN y (ff i))) := Lib.hid fun i y hy => by rw [← e1, ← e1]; exact HE.out i y hy
  replace HZ : Hid (ff 0 = a) := Lib.hid (by rw [← e1]; exact HZ.out)
  have HP0 := Lib.hid (show SzP p w w (ff 0) from ⟨Ex.refl _ _, by rw [HZ.out]; exact hp, hf⟩)
  rw [e1]
  clear e1 hff hp hf HZ
  go_enter Try.func66, Try.ntmps66
  go_wp2_with fail
  go_loopg [6, 9] l.length (fun gg s6 s9 wr => ∃ i : Nat, gg = l.length - i ∧ i ≤ l.length ∧ s9 = .int .i64 (i : Int) ∧ SzP p w wr (ff i))
  case atStart => exact ⟨0, rfl, by omega, rfl, HP0.out⟩
  case round =>
    obtain ⟨i, hg, hi, rfl, hz⟩ := hrel
    have HGG := Lib.hid hg
    have HB := Lib.hid hz
    have HSI := Lib.hid (HS.out.ex hz.1 HX.out)
    have hp := hz.2.1
    have hf := hz.2.2
    have hlr := lt_of_cell hp
    have HBA := Lib.hid (fun o => (Below.refl wr.heap.size wr).alloc (Nat.le_refl _) o)
    clear hg hz
    by_cases hlt' : i < l.length
    · have hl := List.getElem?_eq_getElem hlt'
      obtain ⟨b, o, kv, nv, rfl, c0, c1, c2, c3, c4, c5, hk, hs, ho⟩ := HSI.out.at i _ hl
      obtain ⟨ka, kc, rfl, -⟩ := id hk.shape
      obtain ⟨na, nc, rfl, -⟩ := hs
      have PX := Lib.hid (sized1_any p l[i] (.slice ka l[i].kids.length kc) (.slice na l[i].names.length nc) (ff i) (wr.alloc (.cells #[.int .i64 l[i].kind, .string l[i].name, .int .i64 l[i].num, .slice ka l[i].kids.length kc, .slice na l[i].names.length nc, .int .i64 l[i].at_] 30)) (((HBA.out _).cell (p := ⟨p, 0, none⟩) hlr).trans hp) (((HBA.out _).frozen (p := ⟨p, 0, none⟩) hlr).trans hf) ho.2.2.2)
      have HKK := Lib.hid hk
      have HY := Lib.hid (HE.out i _ hl)
      have HMM := Lib.hid (List.getElem_mem hlt')
      clear hk hl ho
      generalize l[i] = s at *
      go_wp2_with fail
      refine PX.out.mono ?_
      rintro e w5 ⟨rfl, h5⟩
      have hs5 : wr.heap.size < w5.heap.size := by have := h5.1.size; simp at this; omega
      have k3 : w5.cell? ⟨wr.heap.size, 3, none⟩ = some (.slice ka s.kids.length kc) := (h5.1.cell (by simp) (by omega)).trans (by simp)
      have QX := Lib.hid (HH.out s _ w5 _ HMM.out ((HKK.out.later (HBA.out _)).ex h5.1 HX.out) h5.2.1 h5.2.2)
      have H5 := Lib.hid (HB.out.1.trans ((Ex.of_below (HBA.out _)).trans h5.1))
      clear h5
      go_wp2_with fail
      refine QX.out.mono ?_
      rintro e w6 ⟨rfl, h6⟩
      have H6 := Lib.hid (show SzP p w w6 (ff (i + 1)) by rw [HY.out]; exact ⟨H5.out.trans h6.1, h6.2⟩)
      clear h6
      go_wp2_with fail
      go_roundg (l.length - (i + 1))
      case measure => rw [HGG.out]; omega
      case rel => exact ⟨i + 1, rfl, by omega, by go_num, H6.out⟩
    · have : i = l.length := by omega
      subst this
      go_wp2_with fail
      go_ret
      exact ⟨rfl, HB.out⟩
theorem walk_any (p : Nat) (x : Nat → Prop) (hx : ¬ x p) : ∀ (d : Nat) (v : Value) (l : List Nd) (a : Int) (w : World), NodesX x d w v l → w.cell? ⟨p, 0, none⟩ = some (.int .i64 a) → w.frozen? ⟨p, 0, none⟩ = false →
    Calls Try.prog 66 #[v, .func (.func 40) #[] #[.pointer (some ⟨p, 0, none⟩)]] w fun e w' => e = .returned (.bool true) ∧ SzP p w w' (szW d l a)
  | 0, v, l, a, w, h, hp, hf => by
      obtain rfl := nodes0 h
      exact walk_step p x hx 0 v [] a w h.succ hp hf fun k kv' W a' hm => by cases hm
  | d + 1, v, l, a, w, h, hp, hf => walk_step p x hx d v l a w h hp hf fun k kv' W a' hm hk hp' hf' => walk_any p x hx d kv' k.kids a' W hk hp' hf'
end Go.Proofs.Ytpfgidhchjcomaa
