/- Does all lead to objects: of any memory of good objects. What an image's bytes hold; objects that are laid one behind the other: the plain law. -/
import Derived.Test.YtibopjjicfiimaaGreatDoorLoadD
import Derived.Test.YtibopjjicfiimaaGreatDoorImgF
namespace Go.Proofs.YtibopjjicfiimaaGreatDoor
open Go.RowKit
set_option linter.unusedVariables false
/-- is the word an object's pointer? -/
def PtrIn (S : Nat → Bool) (x : Nat) : Bool := decide (x % 2 = 0 ∧ x ≠ 0 ∧ x < 33554432) && S (x / 2)
def WordIn (S : Nat → Bool) (y : Nat) : Bool := decide (y = 0) || decide (y % 2 = 1) || PtrIn S y
def ObjIn (S : Nat → Bool) (M : Nat → Nat) (a : Nat) : Prop := PtrIn S (M a) = true ∧ (hK (M (a + 1)) ≠ 2 → ∀ i : Nat, (i : Int) < hS (M (a + 1)) → WordIn S (M (a + 2 + i)) = true)
/-- all leads to objects -/
def ClosedP (S : Nat → Bool) (M : Nat → Nat) : Prop := ∀ a, S a = true → ObjIn S M a
set_option maxRecDepth 100000 in
theorem hat_no (B h N free x : Nat) (S : Nat → Bool) (M : Nat → Nat) (w : World) (H : HeapAt w B h N free S M) (hx : x < 18446744073709551616) (hno : x % 2 = 1 ∨ x = 0 ∨ 33554432 ≤ x) :
    Calls Tryz.prog 78 #[.pointer (some ⟨h, 0, none⟩), .int .u64 (x : Int)] w fun e w' => e = .returned (.tuple #[.int .i64 0, .bool false]) ∧ Below w.heap.size w w' := by
  have A := Lib.hid (at_no (x : Int) (by omega) (by omega) (by omega) w)
  clear H hno
  go_enter Tryz.func78, Tryz.ntmps78
  go_wp2_with fail
  refine A.out.mono ?_
  rintro e w1 ⟨rfl, hw⟩
  subst hw
  go_wp2_with fail
  exact bodyPost_ret (v := .tuple #[.int .i64 0, .bool false]) (by simp [results, Tryz.results78, go_sem]) rfl ⟨rfl, Below.refl _ _⟩
set_option maxRecDepth 100000 in
theorem hhas_any (B h N free x : Nat) (S : Nat → Bool) (M : Nat → Nat) (w : World) (H : HeapAt w B h N free S M) (hx : x < 18446744073709551616) :
    Calls Tryz.prog 38 #[.pointer (some ⟨h, 0, none⟩), .int .u64 (x : Int)] w fun e w' => e = .returned (.bool (PtrIn S x)) ∧ Below w.heap.size w w' := by
  by_cases hc : x % 2 = 0 ∧ x ≠ 0 ∧ x < 33554432
  · have h1 := hhas_yes B h N free (x / 2) S M w H (by omega) (by omega)
    rw [show ((x / 2 : Nat) : Int) * 2 = (x : Int) by omega] at h1
    unfold PtrIn
    rw [decide_eq_true hc, Bool.true_and]
    exact h1
  · have A := Lib.hid (hat_no B h N free x S M w H hx (by omega))
    unfold PtrIn
    rw [decide_eq_false hc, Bool.false_and]
    clear hc H
    go_enter Tryz.func38, Tryz.ntmps38
    go_wp2_with fail
    refine A.out.mono ?_
    rintro e w2 ⟨rfl, hg⟩
    have HG := Lib.hid hg; clear hg
    go_wp2_with fail
    go_ret
    exact ⟨rfl, HG.out⟩
set_option maxRecDepth 100000 in
set_option maxHeartbeats 3200000 in
theorem closed_any (B h N free : Nat) (S : Nat → Bool) (M : Nat → Nat) (w : World) (H : HeapAt w B h N free S M) (hG : GoodH N S M) (h0S : S 0 = false) (hT : TabAt 0 Lib.deBruijn64tab w) :
    Calls Tryz.prog 46 #[.pointer (some ⟨h, 0, none⟩)] w fun e w' => ∃ b : Bool, e = .returned (.bool b) ∧ (b = true ↔ ClosedP S M) ∧ Below w.heap.size w w' := by
  have hN : N ≤ 16777216 := by obtain ⟨g, s, -, -, h3, -⟩ := H; exact h3
  have hM : ∀ i, M i < 18446744073709551616 := by obtain ⟨g, s, -, -, -, -, -, -, -, h, -⟩ := H; exact h
  have FI := Lib.hid (first_any B h N free S M w H hN h0S hT)
  have HH := Lib.hid H; have HT := Lib.hid hT; have HS := Lib.hid h0S; have HG := Lib.hid hG; have HM := Lib.hid hM
  have HAS := Lib.hid (fun W (x : Nat) (hx : x < 18446744073709551616) (hW : Below w.heap.size w W) => hhas_any B h N free x S M W (H.later hW) hx)
  clear H hT hG h0S hM
  go_enter Tryz.func46, Tryz.ntmps46
  go_wp2_with fail
  refine FI.out.mono ?_
  rintro e w1 ⟨x0, rfl, hx0, hg1⟩
  have HX0 := Lib.hid hx0; have HG1 := Lib.hid hg1
  clear hx0 hg1 FI
  go_wp2_with fail
  go_loopg [3] (N + 1) (fun gg s3 wr => ∃ x : Nat, s3 = .int .u64 (x : Int) ∧ Below w.heap.size w wr ∧ ((x = 0 ∧ ClosedP S M) ∨ ∃ k : Nat, x = k * 2 ∧ k < N ∧ S k = true ∧ N - k ≤ gg ∧ ∀ a, a < k → S a = true → ObjIn S M a))
  case atStart =>
    refine ⟨x0, rfl, HG1.out, ?_⟩
    rcases HX0.out with ⟨h, hno⟩ | ⟨k, h1, h2, -, h3, hno⟩
    · refine Or.inl ⟨h, fun a ha => ?_⟩
      have := (HG.out a ha).1.2.1
      rw [hno a (by omega) (by omega)] at ha; cases ha
    · refine Or.inr ⟨k, h1, h2, h3, by omega, fun a hak ha => ?_⟩
      rw [hno a (by omega) hak] at ha; cases ha
  case round =>
    obtain ⟨x, rfl, hbr, hx⟩ := hrel
    have HBR := Lib.hid hbr
    rcases hx with ⟨rfl, hcl⟩ | ⟨k, rfl, hk, hkS, hgk, hdone⟩
    · have HCL := Lib.hid hcl
      clear hbr hcl
      go_wp2_with fail
      go_ret
      exact ⟨true, rfl, ⟨fun _ => HCL.out, fun _ => rfl⟩, HBR.out⟩
    · have HGK := Lib.hid hgk; have HKS := Lib.hid hkS; have HDN := Lib.hid hdone
      obtain ⟨⟨hk0, hk2, -, un⟩, hsz⟩ := HG.out k hkS
      have hs1 := un.2.2.1
      have hs0 : 0 ≤ hS (M (k + 1)) := by unfold hS; omega
      have HD := Lib.hid (hHead_yes B h N free k S M wr (HH.out.later hbr) (by omega) (by omega) hkS un)
      have HGE := Lib.hid (fun W (i : Nat) (hW : Below w.heap.size w W) (hk : hK (M (k + 1)) ≠ 2) (hi : (i : Int) < hS (M (k + 1))) => hget_yes B h N free k i S M W (HH.out.later hW) (by omega) (by have := hsz hk; omega) hkS un hk hi)
      have AFT := Lib.hid (fun W (hW : Below w.heap.size w W) => after_any B h N free k S M W (HH.out.later hW) hN HS.out HKS.out hk (tab_later HT.out hW))
      have HASC := Lib.hid (fun W (hW : Below w.heap.size w W) => HAS.out W (M k) (HM.out k) hW)
      have HOBJ := Lib.hid (show ObjIn S M k ↔ PtrIn S (M k) = true ∧ (hK (M (k + 1)) ≠ 2 → ∀ i : Nat, (i : Int) < hS (M (k + 1)) → WordIn S (M (k + 2 + i)) = true) from Iff.rfl)
      have HNXT := Lib.hid (show ∀ x', ObjIn S M k → IsFrom N S (k + 1 : Int) x' → (x' = 0 ∧ ClosedP S M) ∨ ∃ k' : Nat, x' = k' * 2 ∧ k' < N ∧ S k' = true ∧ k < k' ∧ ∀ a, a < k' → S a = true → ObjIn S M a by
        intro x' ho hf
        rcases hf with ⟨h, hno⟩ | ⟨k', h1, h2, h4, h3, hno⟩
        · refine Or.inl ⟨h, fun a ha => ?_⟩
          by_cases hak : a < k
          · exact HDN.out a hak ha
          · by_cases he : a = k
            · subst he; exact ho
            · have := (HG.out a ha).1.2.1
              rw [hno a (by omega) (by omega)] at ha; cases ha
        · refine Or.inr ⟨k', h1, h2, h3, by omega, fun a hak' ha => ?_⟩
          by_cases hak : a < k
          · exact HDN.out a hak ha
          · by_cases he : a = k
            · subst he; exact ho
            · rw [hno a (by omega) hak'] at ha; cases ha)
      have HSTOP := Lib.hid (show ClosedP S M → ObjIn S M k from fun h => h k HKS.out)
      obtain ⟨c, hcc⟩ : ∃ c, M k = c := ⟨_, rfl⟩
      rw [hcc] at HD HASC HOBJ
      clear hbr hgk hkS un hsz hdone hcc
      obtain ⟨vs, hvs⟩ : ∃ vs : Nat, hS (M (k + 1)) = vs := ⟨(hS (M (k + 1))).toNat, by omega⟩
      rw [hvs] at HD HGE HOBJ hs1
      clear hvs hs0
      generalize hK (M (k + 1)) = vk at *
      generalize hH (M (k + 1)) = vh at *
      generalize hM (M (k + 1)) = vm at *
      go_wp2_with fail
      refine HD.out.mono ?_
      rintro e w2 ⟨rfl, hg2⟩
      have HB2 := Lib.hid (HBR.out.trans (hg2.mono HBR.out.size))
      clear hg2 HD
      go_upto_region 5 with fail
      obtain ⟨w3, hw3⟩ : ∃ w3, w3 = w2.alloc (.cells #[.int .u64 (c : Int), .int .i64 vk, .int .i64 (vs : Int), .int .u32 vh, .bool vm] 119) := ⟨_, rfl⟩
      rw [← hw3]
      have hx3 : w3.heap[w2.heap.size]? = some (.cells #[.int .u64 (c : Int), .int .i64 vk, .int .i64 (vs : Int), .int .u32 vh, .bool vm] 119 (0, 0)) := by rw [hw3]; exact heap_alloc_new w2 _
      have hb3 : Below w2.heap.size w2 w3 := by rw [hw3]; exact (Below.refl _ w2).alloc (Nat.le_refl _) _
      have HB3 := Lib.hid (HB2.out.trans (hb3.mono HB2.out.size))
      have y0 := cellO hx3 0
      have hl3 := (Array.getElem?_eq_some_iff.1 hx3).1
      simp at y0
      have HX3 := Lib.hid hx3
      clear hw3 hb3 hx3
      go_wp2_with fail
      refine (HASC.out w3 HB3.out).mono ?_
      rintro e w4 ⟨rfl, hg4⟩
      have hx4 := (hg4.block _ hl3).trans HX3.out
      have HB4 := Lib.hid (HB3.out.trans (hg4.mono HB3.out.size))
      have y1 := cellO hx4 1
      have y2 := cellO hx4 2
      have hl4 := (Array.getElem?_eq_some_iff.1 hx4).1
      simp at y1 y2
      clear hg4 hl3 y0 HX3 hx4
      cases hpc : PtrIn S c with
      | false =>
        rw [hpc] at HOBJ
        go_wp2_with fail
        go_ret
        exact ⟨false, rfl, ⟨fun h => (by cases h), fun h => (by have := (HOBJ.out.1 (HSTOP.out h)).1; cases this)⟩, HB4.out⟩
      | true =>
        rw [hpc] at HOBJ
        clear hpc
        go_wp2_with fail
        go_loopg [29] (vs + 1) (fun gg s29 wr => ∃ j : Nat, gg = vs + 1 - j ∧ j ≤ vs ∧ s29 = .int .i64 (j : Int) ∧ (∀ i, i < j → WordIn S (M (k + 2 + i)) = true) ∧ Below w4.heap.size w4 wr)
        case atStart => exact ⟨0, rfl, by omega, rfl, fun i hi => (by omega), Below.refl _ _⟩
        case round =>
          obtain ⟨j, hgj, hj, rfl, hall, hbq⟩ := hrel
          have HGJ := Lib.hid hgj; have HBQ := Lib.hid hbq; have HALL := Lib.hid hall
          have HBW := Lib.hid (HB4.out.trans (hbq.mono HB4.out.size))
          have z1 := (hbq.cell (p := ⟨w2.heap.size, 1, none⟩) hl4).trans y1
          clear hgj hbq hall
          by_cases hjv : j = vs
          · subst hjv
            have HOB := Lib.hid (HOBJ.out.2 ⟨trivial, fun _ i hi => HALL.out i (by omega)⟩)
            have AF := Lib.hid (AFT.out wr HBW.out)
            go_wp2_with fail
            refine (AF.out).mono ?_
            rintro e w9 ⟨xn, rfl, hxn, hgn⟩
            have HBN := Lib.hid (HBW.out.trans (hgn.mono HBW.out.size))
            clear hgn
            rcases HNXT.out xn HOB.out hxn with ⟨rfl, hcl⟩ | ⟨k', rfl, hkn1, hkn3, hkn4, hkn5⟩
            · have HCL := Lib.hid hcl
              clear hcl hxn
              go_wp2_with fail
              go_roundg 0
              case measure => have := HGK.out; omega
              case rel => exact ⟨0, rfl, HBN.out, Or.inl ⟨rfl, HCL.out⟩⟩
            · have HK3 := Lib.hid hkn3; have HK5 := Lib.hid hkn5
              clear hkn3 hkn5 hxn
              go_wp2_with fail
              go_roundg (N - k')
              case measure => have := HGK.out; omega
              case rel => exact ⟨k' * 2, by simp, HBN.out, Or.inr ⟨k', rfl, hkn1, HK3.out, Nat.le_refl _, HK5.out⟩⟩
          · by_cases hk2 : vk = 2
            · subst hk2
              have HOB := Lib.hid (HOBJ.out.2 ⟨trivial, fun hh => absurd rfl hh⟩)
              have AF := Lib.hid (AFT.out wr HBW.out)
              go_wp2_with fail
              refine (AF.out).mono ?_
              rintro e w9 ⟨xn, rfl, hxn, hgn⟩
              have HBN := Lib.hid (HBW.out.trans (hgn.mono HBW.out.size))
              clear hgn
              rcases HNXT.out xn HOB.out hxn with ⟨rfl, hcl⟩ | ⟨k', rfl, hkn1, hkn3, hkn4, hkn5⟩
              · have HCL := Lib.hid hcl
                clear hcl hxn
                go_wp2_with fail
                go_roundg 0
                case measure => have := HGK.out; omega
                case rel => exact ⟨0, rfl, HBN.out, Or.inl ⟨rfl, HCL.out⟩⟩
              · have HK3 := Lib.hid hkn3; have HK5 := Lib.hid hkn5
                clear hkn3 hkn5 hxn
                go_wp2_with fail
                go_roundg (N - k')
                case measure => have := HGK.out; omega
                case rel => exact ⟨k' * 2, by simp, HBN.out, Or.inr ⟨k', rfl, hkn1, HK3.out, Nat.le_refl _, HK5.out⟩⟩
            · have GT := HGE.out wr j HBW.out hk2 (by omega)
              have hy := HM.out (k + 2 + j)
              have HW2 := Lib.hid (show WordIn S (M (k + 2 + j)) = true → ∀ i, i < j + 1 → WordIn S (M (k + 2 + i)) = true from fun h i hi => by
                by_cases e : i = j
                · subst e; exact h
                · exact HALL.out i (by omega))
              have HW3 := Lib.hid (show WordIn S (M (k + 2 + j)) = false → ¬ ObjIn S M k from fun h ho => by have := (HOBJ.out.1 ho).2 hk2 j (by omega); rw [h] at this; cases this)
              obtain ⟨y, hye⟩ : ∃ y, M (k + 2 + j) = y := ⟨_, rfl⟩
              rw [hye] at GT hy HW2 HW3
              have GTH := Lib.hid GT
              have hk3 : (vk == 2) = false := by simpa using hk2
              clear hye GT
              go_wp2_with fail
              refine GTH.out.mono ?_
              rintro e w5 ⟨rfl, hg5⟩
              have HBQ2 := Lib.hid (HBQ.out.trans (hg5.mono HBQ.out.size))
              have HBW5 := Lib.hid (HBW.out.trans (hg5.mono HBW.out.size))
              clear hg5
              by_cases hy0 : y = 0
              · subst hy0
                have HWI := Lib.hid (HW2.out rfl)
                go_wp2_with fail
                go_roundg (vs + 1 - (j + 1))
                case measure => rw [HGJ.out]; omega
                case rel => exact ⟨j + 1, rfl, by omega, by go_num, HWI.out, HBQ2.out⟩
              · have y00 : ¬ (y : Int) = 0 := by omega
                have q0 : ((y : Int) != 0) = true := by rw [bne_iff_ne]; exact y00
                have IS := is_any (y : Int) (by omega) (by omega) w5
                by_cases hodd : y % 2 = 1
                · rw [decide_eq_true (show (y : Int) % 2 = 1 by omega)] at IS
                  have ISH := Lib.hid IS
                  have HWI := Lib.hid (HW2.out (by unfold WordIn; simp [hodd]))
                  clear IS hodd hy0
                  go_wp2_with fail
                  refine ISH.out.mono ?_
                  rintro e w6 ⟨rfl, rfl⟩
                  go_wp2_with fail
                  go_roundg (vs + 1 - (j + 1))
                  case measure => rw [HGJ.out]; omega
                  case rel => exact ⟨j + 1, rfl, by omega, by go_num, HWI.out, HBQ2.out⟩
                · rw [decide_eq_false (show ¬ (y : Int) % 2 = 1 by omega)] at IS
                  have ISH := Lib.hid IS
                  have HA2 := Lib.hid (HAS.out w5 y hy HBW5.out)
                  have HEQ := Lib.hid (show WordIn S y = PtrIn S y by unfold WordIn; rw [decide_eq_false hy0, decide_eq_false hodd]; simp)
                  clear IS hodd hy0
                  go_wp2_with fail
                  refine ISH.out.mono ?_
                  rintro e w6 ⟨rfl, rfl⟩
                  go_wp2_with fail
                  refine HA2.out.mono ?_
                  rintro e w7 ⟨rfl, hg7⟩
                  have HBQ3 := Lib.hid (HBQ2.out.trans (hg7.mono HBQ2.out.size))
                  have HBW7 := Lib.hid (HBW5.out.trans (hg7.mono HBW5.out.size))
                  clear hg7 HA2
                  cases hpy : PtrIn S y with
                  | true =>
                    have HWI := Lib.hid (HW2.out (HEQ.out.trans hpy))
                    clear hpy
                    go_wp2_with fail
                    go_roundg (vs + 1 - (j + 1))
                    case measure => rw [HGJ.out]; omega
                    case rel => exact ⟨j + 1, rfl, by omega, by go_num, HWI.out, HBQ3.out⟩
                  | false =>
                    have HWI := Lib.hid (HW3.out (HEQ.out.trans hpy))
                    clear hpy
                    go_wp2_with fail
                    go_ret
                    exact ⟨false, rfl, ⟨fun h => (by cases h), fun h => absurd (HSTOP.out h) HWI.out⟩, HBW7.out⟩
end Go.Proofs.YtibopjjicfiimaaGreatDoor
namespace Go.Proofs.YtibopjjicfiimaaGreatDoor
open Go.RowKit
set_option linter.unusedVariables false
theorem imgL_fits (M : Nat → Nat) (free root : Nat) : Fits (imgL M free root) := by
  obtain ⟨B, hB⟩ : ∃ B, bodyL M free root = B := ⟨_, rfl⟩
  have himg : imgL M free root = B ++ leBytes (crc (nats B)) 4 := by unfold imgL; rw [hB]
  have hll := leBytes_len (crc (nats B)) 4
  have hZ := crc_lt32 B
  refine ⟨?_, ?_⟩
  · rw [himg, ← hB]
    unfold bodyL Lib.hasPrefix
    rw [List.append_assoc]
    exact List.isPrefixOf_iff_prefix.2 (List.prefix_append _ _)
  · rw [himg, List.length_append, hll, Nat.add_sub_cancel, List.take_left' rfl, List.drop_left' rfl]
    unfold getN
    rw [hll, if_pos (by decide), show clip8 4 = 4 by decide, List.take_of_length_le (by omega), leVal_le]
    exact Nat.mod_eq_of_lt (by omega)
theorem wordsL_append (a b : List Nat) : wordsL (a ++ b) = wordsL a ++ wordsL b := by simp [wordsL]
theorem imgL_parts (M : Nat → Nat) (free root : Nat) : imgL M free root = (headL ++ wordsL [free - 2, 0, root]) ++ (wordsL (usedL M free) ++ leBytes (crc (nats (bodyL M free root))) 4) := by
  unfold imgL
  rw [show bodyL M free root = headL ++ (wordsL [free - 2, 0, root] ++ wordsL (usedL M free)) by unfold bodyL allL; rw [wordsL_append]]
  simp only [List.append_assoc]
theorem imgL_front (M : Nat → Nat) (free root : Nat) (hf : free ≤ 100000) (hr : root < 18446744073709551616) :
    wordVals (wordsOf (((imgL M free root).take 32).drop 8) 3) = [.int .u64 ((free - 2 : Nat) : Int), .int .u64 ((0 : Nat) : Int), .int .u64 (root : Int)] := by
  have hl : (headL ++ wordsL [free - 2, 0, root]).length = 32 := by rw [List.length_append, wordsL_len]; rfl
  rw [imgL_parts, List.take_left' hl, List.drop_left' (show headL.length = 8 by rfl)]
  have h := wordsOf_words [free - 2, 0, root] (fun x hx => by simp at hx; omega)
  rw [show [free - 2, 0, root].length = 3 by rfl] at h
  rw [h]
  rfl
theorem imgL_used (M : Nat → Nat) (free root : Nat) (hM : ∀ i, M i < 18446744073709551616) :
    wordsOf (((imgL M free root).take (36 + 8 * (free - 2) - 4)).drop 32) (free - 2) = usedL M free := by
  have hl : (headL ++ wordsL [free - 2, 0, root]).length = 32 := by rw [List.length_append, wordsL_len]; rfl
  have hu := usedL_len M free
  rw [imgL_parts, ← List.append_assoc, List.take_left' (by rw [List.length_append, hl, wordsL_len, hu]; omega), List.drop_left' hl]
  have h := wordsOf_words (usedL M free) (usedL_small hM free)
  rw [hu] at h
  exact h
theorem loadM_used {M : Nat → Nat} {free : Nat} (hz : ∀ j, free ≤ j → M j = 0) (j : Nat) (hj : 2 ≤ j) : loadM (usedL M free) j = M j := by
  unfold loadM
  rw [usedL_len]
  by_cases h : j < free
  · rw [if_pos ⟨hj, by omega⟩, List.getD_eq_getElem?_getD, usedL, List.getElem?_map, List.getElem?_range (by omega)]
    show M (2 + (j - 2)) = M j
    congr 1; omega
  · rw [if_neg (by omega), hz j (by omega)]
theorem LayO.stands {free : Nat} {S : Nat → Bool} {M : Nat → Nat} {o : RO} (h : LayO free S M o) : StandsAt M o.at_ ∧ cellsM M o.at_ = cellsR o := by
  obtain ⟨a, b, c, d, -, e, f⟩ := unOK_packL false h.check (by omega)
  have hh : M (o.at_ + 1) = (packZ o.kind 3 0 false).toNat := h.head
  have hI : ((M (o.at_ + 1) : Nat) : Int) = packZ o.kind 3 0 false := by rw [hh, Int.toNat_of_nonneg e]
  have hcell : cellsM M o.at_ = cellsR o := by unfold cellsM cellsR; rw [hI, b, c, h.cls]
  refine ⟨⟨by rw [hI, h.cls]; exact a, by rw [hI]; exact d, fun hk _ => ?_⟩, hcell⟩
  rw [hI, b] at hk
  have h1 := cellsR_of h.check
  rw [if_pos hk] at h1
  rw [hcell, h1, show o.at_ + 2 + 1 - 1 = o.at_ + 2 by omega, h.tail hk]
  exact Nat.zero_div _
theorem Lays.chain {free : Nat} {S : Nat → Bool} {M : Nat → Nat} {os : List RO} (h : Lays free S M os) : Chain4 M free 2 (os.map (·.at_)) := by
  have key : ∀ (n i : Nat), i + n = os.length → Chain4 M free (usedR (os.take i)) ((os.drop i).map (·.at_)) := by
    intro n
    induction n with
    | zero =>
      intro i hi
      rw [List.drop_of_length_le (by omega), List.take_of_length_le (by omega)]
      exact h.used
    | succ n ih =>
      intro i hi
      have hl : i < os.length := by omega
      have hg := List.getElem?_eq_getElem hl
      obtain ⟨o, ho⟩ : ∃ o, os[i] = o := ⟨_, rfl⟩
      rw [List.drop_eq_getElem_cons hl, List.map_cons, ho]
      rw [ho] at hg
      obtain ⟨hs, hc⟩ := (h.obj i o hg).stands
      have hn := h.next i o hg
      refine ⟨hn, by rw [← hn]; exact hs, ?_⟩
      have h2 := ih (i + 1) (by omega)
      rw [List.take_succ_eq_append_getElem hl, ho, usedR_snoc] at h2
      rw [← hn, hc]
      exact h2
  exact key os.length 0 (by omega)
theorem Chain4.congr {M M' : Nat → Nat} {free : Nat} (hM : ∀ j, 2 ≤ j → M' j = M j) : ∀ {l : List Nat} {a : Nat}, 2 ≤ a → Chain4 M free a l → Chain4 M' free a l
  | [], a, _, h => h
  | x :: l, a, ha, ⟨hx, ⟨h1, h2, h3⟩, h4⟩ => by
    have e0 := hM a ha
    have e1 := hM (a + 1) (by omega)
    have ec : cellsM M' a = cellsM M a := by unfold cellsM; rw [e0, e1]
    refine ⟨hx, ⟨by rw [e0, e1]; exact h1, by rw [e1]; exact h2, fun hk hr => ?_⟩, ?_⟩
    · rw [e1] at hk hr ⊢
      rw [ec, hM _ (by omega)]
      exact h3 hk hr
    · rw [ec]
      exact Chain4.congr hM (by omega) h4
theorem Lays.setAll_eq {N free : Nat} {S : Nat → Bool} {M : Nat → Nat} {os : List RO} (h : Lays free S M os) (hN : free ≤ N) : setAll N (fun _ => false) (os.map (·.at_)) = S := by
  have hlt : ∀ x ∈ os.map (·.at_), x < N := by
    intro x hx
    obtain ⟨o, ho, rfl⟩ := List.mem_map.1 hx
    obtain ⟨i, hi, rfl⟩ := List.getElem_of_mem ho
    have := (h.obj i _ (List.getElem?_eq_getElem hi)).fit
    omega
  funext a
  have hiff := setAll_iff N (os.map (·.at_)) (fun _ => false) a hlt
  cases hs : S a with
  | true =>
    rw [hiff]
    obtain ⟨i, o, ho, rfl⟩ := h.only a hs
    exact Or.inl (List.mem_map.2 ⟨o, List.mem_of_getElem? ho, rfl⟩)
  | false =>
    cases hq : setAll N (fun _ => false) (os.map (·.at_)) a with
    | false => rfl
    | true =>
      rcases hiff.1 hq with hm | hm
      · obtain ⟨o, ho, rfl⟩ := List.mem_map.1 hm
        obtain ⟨i, hi, rfl⟩ := List.getElem_of_mem ho
        rw [(h.obj i _ (List.getElem?_eq_getElem hi)).here] at hs
        cases hs
      · cases hm
theorem Lays.goodN {N free : Nat} {S : Nat → Bool} {M M' : Nat → Nat} {os : List RO} (h : Lays free S M os) (hf : free ≤ N) (hM : ∀ j, 2 ≤ j → M' j = M j) : GoodH N S M' := by
  intro a ha
  obtain ⟨i, o, ho, rfl⟩ := h.only a ha
  have hp := h.obj i o ho
  have h2 := hp.two; have h3 := hp.fit
  have hc := cellsR_of hp.check
  obtain ⟨u1, u2, u3⟩ := hp.un
  rw [hM _ (show 2 ≤ o.at_ + 1 by omega), ← show M' o.at_ = M o.at_ from hM _ h2] at *
  refine ⟨⟨by omega, by split at hc <;> omega, ha, by rw [hM _ (show 2 ≤ o.at_ + 1 by omega)]; exact u1⟩, fun hk => ?_⟩
  rw [u2] at hk
  rw [if_neg hk] at hc
  rw [u3]
  show o.at_ + 2 + 3 ≤ N
  omega
theorem ClosedP.congr {S : Nat → Bool} {M M' : Nat → Nat} (hS : ∀ a, S a = true → 2 ≤ a) (hM : ∀ j, 2 ≤ j → M' j = M j) : ClosedP S M' ↔ ClosedP S M := by
  have key : ∀ a, S a = true → (ObjIn S M' a ↔ ObjIn S M a) := by
    intro a ha
    have h2 := hS a ha
    unfold ObjIn
    rw [hM a h2, hM (a + 1) (by omega)]
    constructor
    · rintro ⟨h1, h3⟩
      exact ⟨h1, fun hk i hi => by rw [← hM _ (by omega)]; exact h3 hk i hi⟩
    · rintro ⟨h1, h3⟩
      exact ⟨h1, fun hk i hi => by rw [hM _ (by omega)]; exact h3 hk i hi⟩
  exact ⟨fun h a ha => (key a ha).1 (h a ha), fun h a ha => (key a ha).2 (h a ha)⟩
end Go.Proofs.YtibopjjicfiimaaGreatDoor
