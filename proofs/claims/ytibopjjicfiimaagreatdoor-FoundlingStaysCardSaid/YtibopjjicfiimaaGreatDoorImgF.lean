/- All leads to objects: of memory of small objects. -/
import Derived.Test.YtibopjjicfiimaaGreatDoorImgE
import Derived.Test.YtibopjjicfiimaaGreatDoorWalkH
import Derived.Test.YtibopjjicfiimaaGreatDoorHeapPut
namespace Go.Proofs.YtibopjjicfiimaaGreatDoor
open Go.RowKit
set_option linter.unusedVariables false
def Leads1 (S : Nat → Bool) (y : Nat) : Prop := ∃ c, y = c * 2 ∧ 1 ≤ c ∧ c < 16777216 ∧ S c = true
set_option maxRecDepth 100000 in
set_option maxHeartbeats 1600000 in
theorem closed_yes (B h N free : Nat) (S : Nat → Bool) (M : Nat → Nat) (w : World) (H : HeapAt w B h N free S M) (hN : N ≤ 16777216) (h0S : S 0 = false) (hT : TabAt 0 Lib.deBruijn64tab w)
    (hcl : ∀ a, S a = true → a + 3 ≤ N ∧ UnOK (M a) (M (a + 1)) ∧ Leads1 S (M a) ∧ hK (M (a + 1)) = 1 ∧ hS (M (a + 1)) = 1 ∧ (M (a + 2) % 2 = 1 ∨ Leads1 S (M (a + 2)))) :
    Calls Tryz.prog 46 #[.pointer (some ⟨h, 0, none⟩)] w fun e w' => e = .returned (.bool true) ∧ Below w.heap.size w w' := by
  have FI := Lib.hid (first_any B h N free S M w H hN h0S hT)
  have HH := Lib.hid H; have HT := Lib.hid hT; have HS := Lib.hid h0S; have HC := Lib.hid hcl
  clear H hT hcl h0S
  go_enter Tryz.func46, Tryz.ntmps46
  go_wp2_with fail
  refine FI.out.mono ?_
  rintro e w1 ⟨x0, rfl, hx0, hg1⟩
  have HX0 := Lib.hid hx0; have HG1 := Lib.hid hg1
  clear hx0 hg1 FI
  go_wp2_with fail
  go_loopg [3] (N + 1) (fun gg s3 wr => ∃ x : Nat, s3 = .int .u64 (x : Int) ∧ Below w.heap.size w wr ∧ (x = 0 ∨ ∃ k : Nat, x = k * 2 ∧ k < N ∧ S k = true ∧ N - k ≤ gg))
  case atStart =>
    refine ⟨x0, rfl, HG1.out, ?_⟩
    rcases HX0.out with ⟨h, -⟩ | ⟨k, h1, h2, -, h3, -⟩
    · exact Or.inl h
    · exact Or.inr ⟨k, h1, h2, h3, by omega⟩
  case round =>
    obtain ⟨x, rfl, hbr, hx⟩ := hrel
    have HBR := Lib.hid hbr
    rcases hx with rfl | ⟨k, rfl, hk, hkS, hgk⟩
    · clear hbr
      go_wp2_with fail
      go_ret
      exact ⟨rfl, HBR.out⟩
    · have HGK := Lib.hid hgk; have HKS := Lib.hid hkS
      have hk0 : k ≠ 0 := fun e => by subst e; rw [HS.out] at hkS; cases hkS
      obtain ⟨n3, un, ⟨c, hc, c1, c2, cS⟩, k1, s1, ld⟩ := HC.out k hkS
      have HD := hHead_yes B h N free k S M wr (HH.out.later hbr) (by omega) (by omega) hkS un
      have HGE := Lib.hid (fun W (hW : Below w.heap.size w W) => hget_yes B h N free k 0 S M W (HH.out.later hW) (by omega) (by omega) hkS un (by rw [k1]; omega) (by rw [s1]; omega))
      rw [k1, s1, hc] at HD
      have HDH := Lib.hid HD
      have HHA := Lib.hid (fun W (hW : Below w.heap.size w W) => show Calls Tryz.prog 38 #[.pointer (some ⟨h, 0, none⟩), .int .u64 (c * 2 : Int)] W fun e w' => e = .returned (.bool true) ∧ Below W.heap.size W w' from by
        have := hhas_yes B h N free c S M W (HH.out.later hW) c1 c2
        rw [cS] at this
        exact this)
      have LD := Lib.hid ld
      have hpc : ((c * 2 : Nat) : Int) = (c : Int) * 2 := by simp
      rw [hpc] at HDH
      clear hbr hgk hkS HD un hc cS k1 s1 ld hpc
      go_wp2_with fail
      refine HDH.out.mono ?_
      rintro e w2 ⟨rfl, hg2⟩
      have HB2 := Lib.hid (HBR.out.trans (hg2.mono HBR.out.size))
      clear hg2
      go_wp2_with fail
      obtain ⟨w3, hw3⟩ : ∃ w3, w3 = w2.alloc (.cells #[.int .u64 ((c : Int) * 2), .int .i64 1, .int .i64 1, .int .u32 (hH (M (k + 1))), .bool (hM (M (k + 1)))] 119) := ⟨_, rfl⟩
      rw [← hw3]
      have hx3 : w3.heap[w2.heap.size]? = some (.cells #[.int .u64 ((c : Int) * 2), .int .i64 1, .int .i64 1, .int .u32 (hH (M (k + 1))), .bool (hM (M (k + 1)))] 119 (0, 0)) := by rw [hw3]; exact heap_alloc_new w2 _
      have hb3 : Below w2.heap.size w2 w3 := by rw [hw3]; exact (Below.refl _ w2).alloc (Nat.le_refl _) _
      have HB3 := Lib.hid (HB2.out.trans (hb3.mono HB2.out.size))
      clear hw3 hb3
      refine (HHA.out w3 HB3.out).mono ?_
      rintro e w4 ⟨rfl, hg4⟩
      have hl3 := (Array.getElem?_eq_some_iff.1 hx3).1
      have hx4 := (hg4.block _ hl3).trans hx3
      have HB4 := Lib.hid (HB3.out.trans (hg4.mono HB3.out.size))
      have y1 := cellO hx4 1
      have y2 := cellO hx4 2
      have hl4 := (Array.getElem?_eq_some_iff.1 hx4).1
      have HX4 := Lib.hid hx4
      simp at y1 y2
      clear hx3 hx4 hg4 hl3
      go_wp2_with fail
      go_loopg [29] 2 (fun gg s29 wr => ∃ j : Nat, gg = 2 - j ∧ j ≤ 1 ∧ s29 = .int .i64 (j : Int) ∧ Below w4.heap.size w4 wr)
      case atStart => exact ⟨0, rfl, by omega, rfl, Below.refl _ _⟩
      case round =>
        obtain ⟨j, hgj, hj, rfl, hbq⟩ := hrel
        have HGJ := Lib.hid hgj; have HBQ := Lib.hid hbq
        have HBW := Lib.hid (HB4.out.trans (hbq.mono HB4.out.size))
        have z1 := (hbq.cell (p := ⟨w2.heap.size, 1, none⟩) hl4).trans y1
        clear hgj hbq
        by_cases hj0 : j = 0
        · subst hj0
          have GT := Lib.hid (HGE.out wr HBW.out)
          go_wp2_with fail
          refine GT.out.mono ?_
          rintro e w5 ⟨rfl, hg5⟩
          have HBQ2 := Lib.hid (HBQ.out.trans (hg5.mono HBQ.out.size))
          have HBW5 := Lib.hid (HBW.out.trans (hg5.mono HBW.out.size))
          clear hg5
          rw [Nat.add_zero]
          have hMl : M (k + 2) < 18446744073709551616 := by obtain ⟨g, s, -, -, -, -, -, -, -, h, -⟩ := HH.out; exact h _
          rcases LD.out with hodd | ⟨c', hc', c1', c2', cS'⟩
          · obtain ⟨y, hy⟩ : ∃ y, M (k + 2) = y := ⟨_, rfl⟩
            rw [hy] at hodd hMl ⊢
            have IS := is_any (y : Int) (by omega) (by omega) w5
            rw [decide_eq_true (show (y : Int) % 2 = 1 by omega)] at IS
            have ISH := Lib.hid IS
            have y0 : ¬ (y : Int) = 0 := by omega
            have q0 : ((y : Int) != 0) = true := by rw [bne_iff_ne]; exact y0
            clear IS
            go_wp2_with fail
            refine ISH.out.mono ?_
            rintro e w6 ⟨rfl, rfl⟩
            go_wp2_with fail
            go_roundg 1
            case measure => rw [HGJ.out]; omega
            case rel => exact ⟨1, rfl, Nat.le_refl _, rfl, HBQ2.out⟩
          · rw [hc']
            have IS := is_any ((c' * 2 : Nat) : Int) (by omega) (by omega) w5
            rw [decide_eq_false (show ¬ ((c' * 2 : Nat) : Int) % 2 = 1 by omega)] at IS
            rw [show ((c' * 2 : Nat) : Int) = (c' : Int) * 2 by simp] at IS ⊢
            have ISH := Lib.hid IS
            have HA2 := hhas_yes B h N free c' S M w5 (HH.out.later HBW5.out) c1' c2'
            rw [cS'] at HA2
            have HA2H := Lib.hid HA2
            have y0 : ¬ (c' : Int) * 2 = 0 := by omega
            have q0 : ((c' : Int) * 2 != 0) = true := by rw [bne_iff_ne]; exact y0
            clear IS HA2 hc' cS'
            go_wp2_with fail
            refine ISH.out.mono ?_
            rintro e w6 ⟨rfl, rfl⟩
            go_wp2_with fail
            refine HA2H.out.mono ?_
            rintro e w7 ⟨rfl, hg7⟩
            have HBQ2 := Lib.hid (HBQ2.out.trans (hg7.mono HBQ2.out.size))
            clear hg7
            go_wp2_with fail
            go_roundg 1
            case measure => rw [HGJ.out]; omega
            case rel => exact ⟨1, rfl, Nat.le_refl _, rfl, HBQ2.out⟩
        · obtain rfl : j = 1 := by omega
          have AF := Lib.hid (after_any B h N free k S M wr (HH.out.later HBW.out) hN HS.out HKS.out hk (tab_later HT.out HBW.out))
          go_wp2_with fail
          refine (AF.out).mono ?_
          rintro e w9 ⟨xn, rfl, hxn, hgn⟩
          have HBN := Lib.hid (HBW.out.trans (hgn.mono HBW.out.size))
          clear hgn
          rcases hxn with ⟨rfl, -⟩ | ⟨k', rfl, hkn1, hkn2, hkn3, -⟩
          · go_wp2_with fail
            go_roundg 0
            case measure => have := HGK.out; omega
            case rel => exact ⟨0, rfl, HBN.out, Or.inl rfl⟩
          · have HK3 := Lib.hid hkn3
            clear hkn3
            go_wp2_with fail
            go_roundg (N - k')
            case measure => have := HGK.out; omega
            case rel => exact ⟨k' * 2, by simp, HBN.out, Or.inr ⟨k', rfl, hkn1, HK3.out, Nat.le_refl _⟩⟩
end Go.Proofs.YtibopjjicfiimaaGreatDoor
