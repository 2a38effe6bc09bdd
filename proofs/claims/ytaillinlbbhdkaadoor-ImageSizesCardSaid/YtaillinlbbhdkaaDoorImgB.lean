/- Memory as bytes. -/
import Derived.Test.YtaillinlbbhdkaaDoorImgA
import Derived.Test.YtaillinlbbhdkaaDoorPackWf
import Derived.Test.YtaillinlbbhdkaaDoorPackPut
import Derived.Lib.SlBytesConst
namespace Go.Proofs.YtaillinlbbhdkaaDoor
open Go.RowKit
set_option linter.unusedVariables false
def headL : List UInt8 := [70, 78, 68, 76, 1, 0, 0, 0]
/-- what stands ahead of the words, and they -/
def allL (M : Nat → Nat) (free root : Nat) : List Nat := [free - 2, 0, root] ++ usedL M free
def bodyL (M : Nat → Nat) (free root : Nat) : List UInt8 := headL ++ wordsL (allL M free root)
def imgL (M : Nat → Nat) (free root : Nat) : List UInt8 := bodyL M free root ++ leBytes (crc (nats (bodyL M free root))) 4
theorem allL_len (M : Nat → Nat) (free root : Nat) : (allL M free root).length = 3 + (free - 2) := by simp [allL, usedL_len]; omega
theorem bodyL_len (M : Nat → Nat) (free root : Nat) : (bodyL M free root).length = 32 + 8 * (free - 2) := by
  unfold bodyL; rw [List.length_append, wordsL_len, allL_len]; simp [headL]; omega
theorem imgL_len (M : Nat → Nat) (free root : Nat) : (imgL M free root).length = 36 + 8 * (free - 2) := by
  unfold imgL; rw [List.length_append, bodyL_len, leBytes_len]; omega
theorem usedL_small {M : Nat → Nat} (hM : ∀ i, M i < 18446744073709551616) (free : Nat) : SmallW (usedL M free) := fun x hx => by
  obtain ⟨i, _, rfl⟩ := List.mem_map.1 hx
  exact hM _
theorem allL_small {M : Nat → Nat} (hM : ∀ i, M i < 18446744073709551616) (free root : Nat) (hf : free ≤ 100000) (hr : root < 18446744073709551616) : SmallW (allL M free root) := fun x hx => by
  rcases List.mem_append.1 hx with hx | hx
  · simp at hx; omega
  · exact usedL_small hM free x hx
theorem crc_lt32 (l : List UInt8) : crc (nats l) < 4294967296 := by
  have h : crcFrom 4294967295 (nats l) < 4294967296 := crcFrom_lt (by omega) (fun c hc => by
    obtain ⟨x, _, rfl⟩ := List.mem_map.1 hc
    exact x.toNat_lt)
  exact Nat.xor_lt_two_pow (n := 32) h (by omega)
theorem owns_low {w : World} {B B' : Nat} {v : Value} {l : List UInt8} (h : OwnsB w B v l) (hB : B' ≤ B) : OwnsB w B' v l := by
  refine ⟨h.1, ?_⟩
  rcases h.2 with h2 | ⟨g, cap, cur, a, b, c⟩
  · exact Or.inl h2
  · exact Or.inr ⟨g, cap, cur, a, Nat.le_trans hB b, c⟩
theorem headPut : [70, 78, 68, 76] ++ leBytes 1 (clip8 4) = headL := by decide
set_option maxRecDepth 100000 in
theorem hlast_any (B h N free : Nat) (S : Nat → Bool) (M : Nat → Nat) (w : World) (H : HeapAt w B h N free S M) :
    Calls Tryd.prog 22 #[.pointer (some ⟨h, 0, none⟩)] w fun e w' => e = .returned (.int .u32 0) ∧ w' = w := by
  obtain ⟨g, s, -, -, -, -, hf, h5, -⟩ := H
  have c3 := cellO h5 3
  simp at c3
  clear h5
  go_enter Tryd.func22, Tryd.ntmps22
  go_wp2_with fail
  exact bodyPost_ret (v := .int .u32 0) (by simp [results, Tryd.results22, go_sem]) rfl ⟨rfl, rfl⟩
theorem bytes_four (w : World) : BytesAt (w.alloc (.cells #[.int .u8 70, .int .u8 78, .int .u8 68, .int .u8 76] 5 (4, 5))) (.slice (some ⟨w.heap.size, 0, none⟩) 4 4) [70, 78, 68, 76] := by
  refine ⟨_, 4, rfl, Nat.le_refl _, by unfold maxLen; omega, Or.inr ⟨w.heap.size, 0, rfl, fun j hj => ?_⟩, fun h => by cases h⟩
  have hblk := heap_alloc_new w (.cells #[.int .u8 70, .int .u8 78, .int .u8 68, .int .u8 76] 5 (4, 5))
  match j, hj with
  | 0, _ => exact (cellO hblk _).trans rfl
  | 1, _ => exact (cellO hblk _).trans rfl
  | 2, _ => exact (cellO hblk _).trans rfl
  | 3, _ => exact (cellO hblk _).trans rfl
set_option maxRecDepth 100000 in
set_option maxHeartbeats 1600000 in
theorem encode_yes (B h N free a : Nat) (S : Nat → Bool) (M : Nat → Nat) (w : World) (H : HeapAt w B h N free S M) (h2 : 2 ≤ free) (hN : N ≤ 900) (a0 : 1 ≤ a) (haN : a < 16777216) (ha : S a = true) :
    Calls Tryd.prog 7 #[.pointer (some ⟨h, 0, none⟩), .int .u64 (a * 2 : Int)] w fun e w' => ∃ v', e = .returned (.tuple #[v', .int .i64 0]) ∧ OwnsB w' w.heap.size v' (imgL M free (a * 2)) ∧ Below w.heap.size w w' := by
  obtain ⟨i1, hi1, hy0, hy1, hy2⟩ := info_parts u64Info
  obtain ⟨i2, hi2, hc0, hc1, hc2⟩ := info_parts byteInfo
  have hfN : free ≤ N := by obtain ⟨g, s, -, -, -, -, h4, -⟩ := H; exact h4
  have hM : ∀ i, M i < 18446744073709551616 := by obtain ⟨g, s, -, -, -, -, -, -, -, h, -⟩ := H; exact h
  have HA := hhas_yes B h N free a S M w H a0 haN
  rw [ha] at HA
  have HAH := Lib.hid HA
  have HH := Lib.hid H
  have HSM := Lib.hid (allL_small hM free (a * 2) (by omega) (by omega))
  clear HA H ha hM
  have kc := fun (w : World) (C : Array Value) (n c : Nat) => Lib.run_convert_bytes_const (P := Tryd.prog) w 34 5 C n c Tryd.underlying34 Tryd.underlying5
  go_enter Tryd.func7, Tryd.ntmps7
  go_wp2_with fail
  refine HAH.out.mono ?_
  rintro e w1 ⟨rfl, hg1⟩
  have HW := Lib.hid (hwords_any B h N free S M w1 (HH.out.later hg1) h2 (by omega))
  have HG1 := Lib.hid hg1
  clear hg1
  go_wp2_with fail
  refine HW.out.mono ?_
  rintro e w2 ⟨wv, rfl, how, hg2⟩
  have HG2 := Lib.hid (HG1.out.trans (hg2.mono HG1.out.size))
  have HUW := Lib.hid (words_of_owns how)
  obtain ⟨ua, uc, hue, hu1, hu2, hu3⟩ := (words_of_owns how).get
  rw [usedL_len] at hue hu1
  subst hue
  have LA := Lib.hid (hlast_any B h N free S M w2 (HH.out.later HG2.out))
  clear how hg2 hu3
  go_wp2_with fail
  refine LA.out.mono ?_
  rintro e w3 ⟨rfl, rfl⟩
  have ho3 := World.ownsRow_lit (base := w3.heap.size) (size := 1) (e := 38) w3 #[.int .u64 ((free - 2 : Nat) : Int), .int .u64 0, .int .u64 (a * 2 : Int)] 3 (Nat.le_refl _) (by decide) rfl
  have HO3 := Lib.hid ho3
  clear ho3
  go_wp2_with fail
  go_loopg [7, 27] (free - 2) (fun gg s7 s27 wr => ∃ (j : Nat) (a7 : Option Addr) (n7 c7 : Nat), gg = free - 2 - j ∧ j ≤ free - 2 ∧ s27 = .int .i64 (j : Int) ∧ s7 = .slice a7 n7 c7 ∧ wr.ownsRow w3.heap.size 38 1 (.slice a7 n7 c7) (3 + j) (wordVals ([free - 2, 0, a * 2] ++ (usedL M free).take j)) ∧ Below w3.heap.size w3 wr)
  case atStart =>
    refine ⟨0, _, _, _, rfl, by omega, rfl, rfl, ?_, (Below.refl _ w3).alloc (Nat.le_refl _) _⟩
    simpa [wordVals] using HO3.out
  case round =>
    obtain ⟨j, a7, n7, c7, hgj, hj, rfl, rfl, hor, hbr⟩ := hrel
    have HGJ := Lib.hid hgj; have HOR := Lib.hid hor; have HBR := Lib.hid hbr
    have hzr := hbr.size
    by_cases hlt : j < free - 2
    · obtain ⟨ua', uc', hue', -, -, hcu⟩ := (HUW.out.later hbr).get
      rw [usedL_len] at hue'
      simp only [Value.slice.injEq] at hue'
      obtain ⟨rfl, -, rfl⟩ := hue'
      obtain ⟨ub, uo, hua, hul, huc⟩ := hcu j (by rw [usedL_len]; exact hlt)
      subst hua
      obtain ⟨x, hx⟩ : ∃ x, (usedL M free)[j]'(by rw [usedL_len]; exact hlt) = x := ⟨_, rfl⟩
      rw [hx] at huc
      have HX := Lib.hid (show (usedL M free).take (j + 1) = (usedL M free).take j ++ [x] by rw [List.take_succ_eq_append_getElem (by rw [usedL_len]; exact hlt), hx])
      clear hgj hor hbr hcu hx
      go_wp2_with (at_builtin; refine wpList_append_own _ rfl _ _ 23 rfl w3.heap.size 38 i1 (.int .u64 0) 1 8 Tryd.underlying23 hi1 hy0 hy1 hy2 rfl (by decide) _ _ _ rfl (HOR.out.alloc _) ⟨wr.heap.size, 0, none⟩ 1 1 [.int .u64 (x : Int)] rfl rfl ?c1 ?c2 ?c3 ?c4 ?c5 ?_)
      case c1 =>
        intro k u hk
        match k, hk with
        | 0, hk => simp at hk; subst hk; simp [Addr.add]
      case c2 => intro u hu; simp at hu; subst hu; rfl
      case c3 => unfold maxLen; omega
      case c4 => omega
      case c5 => simp; omega
      intro v' w5 hown' hgrow _
      obtain ⟨g5, c5, rfl, hg5, -⟩ := World.ownsRow.form hown' (by omega)
      have hb5 : Below w3.heap.size w3 w5 := (HBR.out.alloc (by omega) _).grown hgrow (by simp; omega) (fun q hq => (HOR.out.lt q hq).1)
      have ho5 : w5.ownsRow w3.heap.size 38 1 (.slice (some ⟨g5, 0, none⟩) (3 + j + 1) c5) (3 + j + 1) (wordVals ([free - 2, 0, a * 2] ++ (usedL M free).take (j + 1))) := by
        rw [HX.out, ← List.append_assoc, show wordVals (([free - 2, 0, a * 2] ++ (usedL M free).take j) ++ [x]) = wordVals ([free - 2, 0, a * 2] ++ (usedL M free).take j) ++ [.int .u64 (x : Int)] by simp [wordVals]]
        exact hown'
      have HO5 := Lib.hid ho5; have HB5 := Lib.hid hb5
      clear hown' hgrow ho5 hb5
      go_wp2_with fail
      go_roundg (free - 2 - (j + 1))
      case measure => rw [HGJ.out]; omega
      case rel => exact ⟨j + 1, _, _, _, rfl, by omega, by go_num, rfl, by rw [show 3 + (j + 1) = 3 + j + 1 by omega]; exact HO5.out, HB5.out⟩
    · obtain rfl : j = free - 2 := by omega
      have hall : (usedL M free).take (free - 2) = usedL M free := List.take_of_length_le (by rw [usedL_len]; exact Nat.le_refl _)
      have HWA := Lib.hid (show WordsAt wr (.slice a7 n7 c7) (allL M free (a * 2)) by
        have h := words_of_owns HOR.out
        rw [hall] at h
        exact h)
      have B4 := Lib.hid ((Below.refl _ wr).alloc (Nat.le_refl _) (.cells #[.int .u8 70, .int .u8 78, .int .u8 68, .int .u8 76] 5 (4, 5)))
      have PU := put_any _ [70, 78, 68, 76] 1 4 _ (bytes_four wr) (by simp)
      rw [headPut] at PU
      have PUH := Lib.hid PU
      have HGR := Lib.hid (HG2.out.trans (hbr.mono HG2.out.size))
      clear hgj hor hbr hall PU HOR HBR HO3 HUW
      go_wp2_with fail
      refine PUH.out.mono ?_
      rintro e w5 ⟨pv, rfl, hop, hg5⟩
      have hg5' := B4.out.trans (hg5.mono B4.out.size)
      have WD := Lib.hid (words_any _ _ w5 (HWA.out.later hg5') HSM.out (by rw [allL_len]; omega))
      have HP5 := Lib.hid hop
      have hz5 : wr.heap.size + 1 ≤ w5.heap.size := by have := hg5.size; simp at this; exact this
      have HG5 := Lib.hid (HGR.out.trans (hg5'.mono HGR.out.size))
      obtain ⟨pa, pn, pc, rfl⟩ : ∃ a n c, pv = .slice a n c := by obtain ⟨a, c, h, -⟩ := bytes_of_owns hop; exact ⟨_, _, _, h⟩
      clear hop hg5 hg5' PUH
      go_wp2_with fail
      refine WD.out.mono ?_
      rintro e w6 ⟨qv, rfl, hoq, hg6⟩
      have HP6 := Lib.hid (owns_later HP5.out hg6)
      have hz6 : wr.heap.size + 1 ≤ w6.heap.size := Nat.le_trans hz5 hg6.size
      have HG6 := Lib.hid (HG5.out.trans (hg6.mono HG5.out.size))
      have hql : 0 < (wordsL (allL M free (a * 2))).length := by rw [wordsL_len, allL_len]; omega
      obtain ⟨qg, qc, rfl, -⟩ := ownsB_form hoq hql
      have HQ6 := Lib.hid (bytes_of_owns hoq)
      obtain ⟨qa, qc2, hqe, hq1, hq2, hq3, -⟩ := bytes_of_owns hoq
      simp only [Value.slice.injEq] at hqe
      obtain ⟨rfl, -, rfl⟩ := hqe
      have HQ3 := Lib.hid (RowAt.add hq3)
      have hqlen : (wordsL (allL M free (a * 2))).length = 8 * (3 + (free - 2)) := by rw [wordsL_len, allL_len]
      rw [hqlen]
      clear hoq hg6 WD hq3 HP5 hql
      have b8 : headL.length = 8 := rfl
      go_wp2_with (at_builtin; refine wpList_append_own _ rfl _ _ 34 rfl _ 5 i2 (.int .u8 0) 1 1 Tryd.underlying34 hi2 hc0 hc1 hc2 rfl (by decide) _ _ _ rfl HP6.out ⟨qg, 0, none⟩ (8 * (3 + (free - 2))) qc (Lib.byteCells (wordsL (allL M free (a * 2)))) rfl ?c0 HQ3.out ?c2 ?c3 ?c4 ?c5 ?_)
      case c0 => rw [Lib.byteCells_length, hqlen]; omega
      case c2 => intro u hu; simp only [Lib.byteCells, List.mem_map] at hu; obtain ⟨y, _, rfl⟩ := hu; rfl
      case c3 => unfold maxLen; omega
      case c4 => omega
      case c5 => simpa using hz6
      intro v' w7 hown' hgrow _
      have hbl := bodyL_len M free (a * 2)
      have hob7 : OwnsB w7 (wr.heap.size + 1) v' (bodyL M free (a * 2)) := by
        unfold OwnsB
        rw [hbl, show Lib.byteCells (bodyL M free (a * 2)) = Lib.byteCells headL ++ Lib.byteCells (wordsL (allL M free (a * 2))) by simp [Lib.byteCells, bodyL], show 32 + 8 * (free - 2) = 8 + 8 * (3 + (free - 2)) by omega]
        exact hown'
      have hb7 : Below w.heap.size w w7 := HG6.out.grown hgrow HG6.out.size (fun q hq => by have := (HP6.out.lt q hq).1; simp at this; have := HGR.out.size; omega)
      have HB7 := Lib.hid hb7
      have HY7 := Lib.hid (bytes_of_owns hob7)
      obtain ⟨ya, yn, yc, rfl⟩ : ∃ a n c, v' = .slice a n c := by obtain ⟨a, c, h, -⟩ := bytes_of_owns hob7; exact ⟨_, _, _, h⟩
      have CR := Lib.hid (crc_any _ _ w7 HY7.out)
      obtain ⟨Z, hZ⟩ : ∃ Z, crc (nats (bodyL M free (a * 2))) = Z := ⟨_, rfl⟩
      rw [hZ] at CR
      have HZ := Lib.hid hZ
      have hzl : Z < 4294967296 := by rw [← hZ]; exact crc_lt32 _
      clear hown' hgrow hob7 hb7 hZ HP6 HQ3 HQ6 HWA
      go_wp2_with fail
      refine CR.out.mono ?_
      rintro e w8 ⟨rfl, hg8⟩
      have PU2 := put_any _ (bodyL M free (a * 2)) Z 4 w8 (HY7.out.later hg8) (by rw [hbl]; omega)
      rw [show bodyL M free (a * 2) ++ leBytes Z (clip8 4) = imgL M free (a * 2) by unfold imgL; rw [HZ.out]; rfl] at PU2
      have PU2H := Lib.hid PU2
      have HB8 := Lib.hid (HB7.out.trans (hg8.mono HB7.out.size))
      clear hg8 PU2
      go_wp2_with fail
      refine PU2H.out.mono ?_
      rintro e w9 ⟨zv, rfl, hoz, hg9⟩
      have HOZ := Lib.hid (owns_low hoz HB8.out.size)
      have HB9 := Lib.hid (HB8.out.trans (hg9.mono HB8.out.size))
      clear hoz hg9
      go_wp2_with fail
      exact bodyPost_ret (v := .tuple #[zv, .int .i64 0]) (by simp [results, Tryd.results7, go_sem]) rfl ⟨zv, rfl, HOZ.out, HB9.out⟩
end Go.Proofs.YtaillinlbbhdkaaDoor
