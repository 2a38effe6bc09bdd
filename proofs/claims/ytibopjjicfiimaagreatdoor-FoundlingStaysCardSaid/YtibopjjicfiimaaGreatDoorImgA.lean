/- Memory's words, as they are used. -/
import Derived.Test.YtibopjjicfiimaaGreatDoorHeapPut
import Derived.Test.YtibopjjicfiimaaGreatDoorRefHeap
import Derived.Test.YtibopjjicfiimaaGreatDoorPackOpen
namespace Go.Proofs.YtibopjjicfiimaaGreatDoor
open Go.RowKit
set_option linter.unusedVariables false
set_option maxRecDepth 100000 in
theorem clonew_any (ad : Addr) (cap : Nat) (l : List Nat) (w : World) (h : WordsAt w (.slice (some ad) l.length cap) l) (hl : l.length ≤ 100000) :
    Calls Tryz.prog 79 #[.slice (some ad) l.length cap] w fun e w' => ∃ v', e = .returned v' ∧ w'.ownsRow w.heap.size 39 1 v' l.length (wordVals l) ∧ Below w.heap.size w w' := by
  obtain ⟨i0, hi, hz0, hz1, hz2⟩ := info_parts cellInfo
  have ho : (w.alloc (.cells #[] 39)).ownsRow w.heap.size 39 1 (.slice (some ⟨w.heap.size, 0, none⟩) 0 0) 0 [] := World.ownsRow_lit w #[] 0 (Nat.le_refl _) (by decide) rfl
  obtain ⟨a, c, he, h1, h2, h3, -⟩ := h
  simp only [Value.slice.injEq] at he
  obtain ⟨rfl, -, rfl⟩ := he
  have H4 := Lib.hid (RowAt.add (h3.later ((Below.refl _ w).alloc (Nat.le_refl _) (.cells #[] 39))))
  clear h3
  have q46 : ∀ (w : World) (a : Option Addr) (n c n' c' : Nat), (binOp .eql 40 (.slice a n c) (.slice none n' c')).run Tryz.prog w = .ok (.bool a.isNone) w := fun w a n c n' c' => Lib.run_eql_slice_nil w _ _ a n c n' c' Tryz.underlying40
  go_enter Tryz.func79, Tryz.ntmps79
  go_wp2_with (at_builtin; refine wpList_append_own _ rfl _ _ 40 rfl w.heap.size 39 i0 (.int .u64 0) 1 8 Tryz.underlying40 hi hz0 hz1 hz2 rfl (by decide) _ _ _ rfl ho ad l.length cap (wordVals l) rfl (by rw [wordVals_length]; omega) H4.out ?c2 ?c3 ?c4 ?c5 ?_)
  case c2 => intro u hu; simp only [wordVals, List.mem_map] at hu; obtain ⟨b, _, rfl⟩ := hu; rfl
  case c3 => unfold maxLen; omega
  case c4 => omega
  case c5 => simp
  intro v' w1 hown' hgrow hnn
  have ho1 : w1.ownsRow w.heap.size 39 1 v' l.length (wordVals l) := by simpa using hown'
  have hb1 := ((Below.refl w.heap.size w).alloc (Nat.le_refl _) (.cells #[] 39)).grown hgrow (by simp) (fun q hq => (ho.lt q hq).1)
  have HO := Lib.hid ho1; have HB := Lib.hid hb1; clear hown' hgrow ho1 hb1 hnn
  go_wp2_with fail
  go_ret
  exact ⟨_, rfl, HO.out, HB.out⟩
/-- the words that are used -/
def usedL (M : Nat → Nat) (free : Nat) : List Nat := (List.range (free - 2)).map fun i => M (2 + i)
theorem usedL_len (M : Nat → Nat) (free : Nat) : (usedL M free).length = free - 2 := by simp [usedL]
set_option maxRecDepth 100000 in
set_option maxHeartbeats 800000 in
theorem hwords_any (B h N free : Nat) (S : Nat → Bool) (M : Nat → Nat) (w : World) (H : HeapAt w B h N free S M) (h2 : 2 ≤ free) (hN : N ≤ 100000) :
    Calls Tryz.prog 39 #[.pointer (some ⟨h, 0, none⟩)] w fun e w' => ∃ v', e = .returned v' ∧ w'.ownsRow w.heap.size 39 1 v' (free - 2) (wordVals (usedL M free)) ∧ Below w.heap.size w w' := by
  obtain ⟨g, s, -, -, -, h16, hf, h5, h6, -⟩ := H
  have b7 : ¬ N = 2 := by omega
  have hl := (Array.getElem?_eq_some_iff.1 h5).1
  have c0 := cellO h5 0
  have c1 := cellO h5 1
  simp at c0 c1
  have hw : WordsAt w (.slice (some ⟨g, 2, none⟩) (usedL M free).length (N - 2)) (usedL M free) := by
    refine ⟨some ⟨g, 2, none⟩, N - 2, rfl, by rw [usedL_len]; omega, by unfold maxLen; omega, Or.inr ⟨g, 2, rfl, fun j hj => ?_⟩, fun h => by simp at h⟩
    rw [wordVals_length, usedL_len] at hj
    rw [h6.cell (by omega)]
    simp [wordVals, usedL, hj]
  rw [usedL_len] at hw
  have K := Lib.hid (show ∀ W, Below w.heap.size w W → Calls Tryz.prog 79 #[.slice (some ⟨g, 2, none⟩) (free - 2) (N - 2)] W fun e w' => ∃ v', e = .returned v' ∧ w'.ownsRow W.heap.size 39 1 v' (free - 2) (wordVals (usedL M free)) ∧ Below W.heap.size W w' from fun W hW => by
    have := clonew_any ⟨g, 2, none⟩ (N - 2) (usedL M free) W (by rw [usedL_len]; exact hw.later hW) (by rw [usedL_len]; omega)
    rw [usedL_len] at this
    exact this)
  clear h5 h6 hw
  have b1 : (2 : Int) ≤ (free : Int) := by omega
  have b2 : (free : Int) ≤ (N : Int) := by omega
  have b3 : ¬ (free : Int) < 2 := by omega
  have b4 : ¬ (N : Int) < free := by omega
  have b5 : ((free : Int) - 2).toNat = free - 2 := by omega
  have b6 : (free : Int).toNat = free := by omega
  go_enter Tryz.func39, Tryz.ntmps39
  go_wp2_with fail
  go_region_with (go_at_call 79; go_loud (refine (K.out _ (Below.refl _ _).drew).mono ?_; rintro e w1 ⟨v', rfl, ho, hg⟩; have HO := Lib.hid ho; have HG := Lib.hid hg; clear ho hg))
  all_goals (go_wp2_with fail)
  all_goals (go_ret)
  all_goals exact ⟨_, rfl, HO.out, (Below.refl _ _).drew.trans HG.out⟩
end Go.Proofs.YtibopjjicfiimaaGreatDoor
