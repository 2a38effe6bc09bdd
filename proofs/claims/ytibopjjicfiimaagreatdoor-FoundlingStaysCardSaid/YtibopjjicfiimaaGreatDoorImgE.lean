/- Memory as bytes. Bytes that are no image. Bytes that are no image are not read. An image with one byte changed is none: the plain law. -/
import Derived.Test.YtibopjjicfiimaaGreatDoorImgA
import Derived.Test.YtibopjjicfiimaaGreatDoorPackWf
import Derived.Test.YtibopjjicfiimaaGreatDoorPackPut
import Derived.Lib.SlBytesConst
import Derived.Test.YtibopjjicfiimaaGreatDoorShelf
import Derived.Lib.SmallJoins
namespace Go.Proofs.YtibopjjicfiimaaGreatDoor
open Go.RowKit
set_option linter.unusedVariables false
def headL : List UInt8 := [70, 78, 68, 76, 1, 0, 0, 0]
/-- what stands ahead of the words, and they -/
def allL (M : Nat → Nat) (free root : Nat) : List Nat := [free - 2, 0, root] ++ usedL M free
def bodyL (M : Nat → Nat) (free root : Nat) : List UInt8 := headL ++ wordsL (allL M free root)
def imgL (M : Nat → Nat) (free root : Nat) : List UInt8 := bodyL M free root ++ leBytes (crc (nats (bodyL M free root))) 4
theorem allL_len (M : Nat → Nat) (free root : Nat) : (allL M free root).length = 3 + (free - 2) := by simp [allL, usedL_len]; omega
theorem bodyL_len (M : Nat → Nat) (free root : Nat) : (bodyL M free root).length = 32 + 8 * (free - 2) := by
  unfold bodyL; rw [List.length_append, wordsL_len, allL_len]; simp [headL]; omega
theorem imgL_len (M : Nat → Nat) (free root : Nat) : (imgL M free root).length = 36 + 8 * (free - 2) := by
  unfold imgL; rw [List.length_append, bodyL_len, leBytes_len]; omega
theorem usedL_small {M : Nat → Nat} (hM : ∀ i, M i < 18446744073709551616) (free : Nat) : SmallW (usedL M free) := fun x hx => by
  obtain ⟨i, _, rfl⟩ := List.mem_map.1 hx
  exact hM _
theorem allL_small {M : Nat → Nat} (hM : ∀ i, M i < 18446744073709551616) (free root : Nat) (hf : free ≤ 100000) (hr : root < 18446744073709551616) : SmallW (allL M free root) := fun x hx => by
  rcases List.mem_append.1 hx with hx | hx
  · simp at hx; omega
  · exact usedL_small hM free x hx
theorem crc_lt32 (l : List UInt8) : crc (nats l) < 4294967296 := by
  have h : crcFrom 4294967295 (nats l) < 4294967296 := crcFrom_lt (by omega) (fun c hc => by
    obtain ⟨x, _, rfl⟩ := List.mem_map.1 hc
    exact x.toNat_lt)
  exact Nat.xor_lt_two_pow (n := 32) h (by omega)
theorem owns_low {w : World} {B B' : Nat} {v : Value} {l : List UInt8} (h : OwnsB w B v l) (hB : B' ≤ B) : OwnsB w B' v l := by
  refine ⟨h.1, ?_⟩
  rcases h.2 with h2 | ⟨g, cap, cur, a, b, c⟩
  · exact Or.inl h2
  · exact Or.inr ⟨g, cap, cur, a, Nat.le_trans hB b, c⟩
theorem headPut : [70, 78, 68, 76] ++ leBytes 1 (clip8 4) = headL := by decide
set_option maxRecDepth 100000 in
theorem hlast_any (B h N free : Nat) (S : Nat → Bool) (M : Nat → Nat) (w : World) (H : HeapAt w B h N free S M) :
    Calls Tryz.prog 37 #[.pointer (some ⟨h, 0, none⟩)] w fun e w' => e = .returned (.int .u32 0) ∧ w' = w := by
  obtain ⟨g, s, -, -, -, -, hf, h5, -⟩ := H
  have c3 := cellO h5 3
  simp at c3
  clear h5
  go_enter Tryz.func37, Tryz.ntmps37
  go_wp2_with fail
  exact bodyPost_ret (v := .int .u32 0) (by simp [results, Tryz.results37, go_sem]) rfl ⟨rfl, rfl⟩
theorem bytes_four (w : World) : BytesAt (w.alloc (.cells #[.int .u8 70, .int .u8 78, .int .u8 68, .int .u8 76] 5 (4, 5))) (.slice (some ⟨w.heap.size, 0, none⟩) 4 4) [70, 78, 68, 76] := by
  refine ⟨_, 4, rfl, Nat.le_refl _, by unfold maxLen; omega, Or.inr ⟨w.heap.size, 0, rfl, fun j hj => ?_⟩, fun h => by cases h⟩
  have hblk := heap_alloc_new w (.cells #[.int .u8 70, .int .u8 78, .int .u8 68, .int .u8 76] 5 (4, 5))
  match j, hj with
  | 0, _ => exact (cellO hblk _).trans rfl
  | 1, _ => exact (cellO hblk _).trans rfl
  | 2, _ => exact (cellO hblk _).trans rfl
  | 3, _ => exact (cellO hblk _).trans rfl
set_option maxRecDepth 100000 in
set_option maxHeartbeats 1600000 in
theorem encode_big (B h N free a : Nat) (S : Nat → Bool) (M : Nat → Nat) (w : World) (H : HeapAt w B h N free S M) (h2 : 2 ≤ free) (hNb : N ≤ 100000) (hfr : free ≤ 6000) (a0 : 1 ≤ a) (haN : a < 16777216) (ha : S a = true) :
    Calls Tryz.prog 9 #[.pointer (some ⟨h, 0, none⟩), .int .u64 (a * 2 : Int)] w fun e w' => ∃ v', e = .returned (.tuple #[v', .int .i64 0]) ∧ OwnsB w' w.heap.size v' (imgL M free (a * 2)) ∧ Below w.heap.size w w' := by
  obtain ⟨i1, hi1, hy0, hy1, hy2⟩ := info_parts u64Info
  obtain ⟨i2, hi2, hc0, hc1, hc2⟩ := info_parts byteInfo
  have hfN : free ≤ N := by obtain ⟨g, s, -, -, -, -, h4, -⟩ := H; exact h4
  have hM : ∀ i, M i < 18446744073709551616 := by obtain ⟨g, s, -, -, -, -, -, -, -, h, -⟩ := H; exact h
  have HA := hhas_yes B h N free a S M w H a0 haN
  rw [ha] at HA
  have HAH := Lib.hid HA
  have HH := Lib.hid H
  have HSM := Lib.hid (allL_small hM free (a * 2) (by omega) (by omega))
  clear HA H ha hM
  have kc := fun (w : World) (C : Array Value) (n c : Nat) => Lib.run_convert_bytes_const (P := Tryz.prog) w 43 5 C n c Tryz.underlying43 Tryz.underlying5
  go_enter Tryz.func9, Tryz.ntmps9
  go_wp2_with fail
  refine HAH.out.mono ?_
  rintro e w1 ⟨rfl, hg1⟩
  have HW := Lib.hid (hwords_any B h N free S M w1 (HH.out.later hg1) h2 (by omega))
  have HG1 := Lib.hid hg1
  clear hg1
  go_wp2_with fail
  refine HW.out.mono ?_
  rintro e w2 ⟨wv, rfl, how, hg2⟩
  have HG2 := Lib.hid (HG1.out.trans (hg2.mono HG1.out.size))
  have HUW := Lib.hid (words_of_owns how)
  obtain ⟨ua, uc, hue, hu1, hu2, hu3⟩ := (words_of_owns how).get
  rw [usedL_len] at hue hu1
  subst hue
  have LA := Lib.hid (hlast_any B h N free S M w2 (HH.out.later HG2.out))
  clear how hg2 hu3
  go_wp2_with fail
  refine LA.out.mono ?_
  rintro e w3 ⟨rfl, rfl⟩
  have ho3 := World.ownsRow_lit (base := w3.heap.size) (size := 1) (e := 30) w3 #[.int .u64 ((free - 2 : Nat) : Int), .int .u64 0, .int .u64 (a * 2 : Int)] 3 (Nat.le_refl _) (by decide) rfl
  have HO3 := Lib.hid ho3
  clear ho3
  go_wp2_with fail
  go_loopg [7, 27] (free - 2) (fun gg s7 s27 wr => ∃ (j : Nat) (a7 : Option Addr) (n7 c7 : Nat), gg = free - 2 - j ∧ j ≤ free - 2 ∧ s27 = .int .i64 (j : Int) ∧ s7 = .slice a7 n7 c7 ∧ wr.ownsRow w3.heap.size 30 1 (.slice a7 n7 c7) (3 + j) (wordVals ([free - 2, 0, a * 2] ++ (usedL M free).take j)) ∧ Below w3.heap.size w3 wr)
  case atStart =>
    refine ⟨0, _, _, _, rfl, by omega, rfl, rfl, ?_, (Below.refl _ w3).alloc (Nat.le_refl _) _⟩
    simpa [wordVals] using HO3.out
  case round =>
    obtain ⟨j, a7, n7, c7, hgj, hj, rfl, rfl, hor, hbr⟩ := hrel
    have HGJ := Lib.hid hgj; have HOR := Lib.hid hor; have HBR := Lib.hid hbr
    have hzr := hbr.size
    by_cases hlt : j < free - 2
    · obtain ⟨ua', uc', hue', -, -, hcu⟩ := (HUW.out.later hbr).get
      rw [usedL_len] at hue'
      simp only [Value.slice.injEq] at hue'
      obtain ⟨rfl, -, rfl⟩ := hue'
      obtain ⟨ub, uo, hua, hul, huc⟩ := hcu j (by rw [usedL_len]; exact hlt)
      subst hua
      obtain ⟨x, hx⟩ : ∃ x, (usedL M free)[j]'(by rw [usedL_len]; exact hlt) = x := ⟨_, rfl⟩
      rw [hx] at huc
      have HX := Lib.hid (show (usedL M free).take (j + 1) = (usedL M free).take j ++ [x] by rw [List.take_succ_eq_append_getElem (by rw [usedL_len]; exact hlt), hx])
      clear hgj hor hbr hcu hx
      go_wp2_with (at_builtin; refine wpList_append_own _ rfl _ _ 56 rfl w3.heap.size 30 i1 (.int .u64 0) 1 8 Tryz.underlying56 hi1 hy0 hy1 hy2 rfl (by decide) _ _ _ rfl (HOR.out.alloc _) ⟨wr.heap.size, 0, none⟩ 1 1 [.int .u64 (x : Int)] rfl rfl ?c1 ?c2 ?c3 ?c4 ?c5 ?_)
      case c1 =>
        intro k u hk
        match k, hk with
        | 0, hk => simp at hk; subst hk; simp [Addr.add]
      case c2 => intro u hu; simp at hu; subst hu; rfl
      case c3 => unfold maxLen; omega
      case c4 => omega
      case c5 => simp; omega
      intro v' w5 hown' hgrow _
      obtain ⟨g5, c5, rfl, hg5, -⟩ := World.ownsRow.form hown' (by omega)
      have hb5 : Below w3.heap.size w3 w5 := (HBR.out.alloc (by omega) _).grown hgrow (by simp; omega) (fun q hq => (HOR.out.lt q hq).1)
      have ho5 : w5.ownsRow w3.heap.size 30 1 (.slice (some ⟨g5, 0, none⟩) (3 + j + 1) c5) (3 + j + 1) (wordVals ([free - 2, 0, a * 2] ++ (usedL M free).take (j + 1))) := by
        rw [HX.out, ← List.append_assoc, show wordVals (([free - 2, 0, a * 2] ++ (usedL M free).take j) ++ [x]) = wordVals ([free - 2, 0, a * 2] ++ (usedL M free).take j) ++ [.int .u64 (x : Int)] by simp [wordVals]]
        exact hown'
      have HO5 := Lib.hid ho5; have HB5 := Lib.hid hb5
      clear hown' hgrow ho5 hb5
      go_wp2_with fail
      go_roundg (free - 2 - (j + 1))
      case measure => rw [HGJ.out]; omega
      case rel => exact ⟨j + 1, _, _, _, rfl, by omega, by go_num, rfl, by rw [show 3 + (j + 1) = 3 + j + 1 by omega]; exact HO5.out, HB5.out⟩
    · obtain rfl : j = free - 2 := by omega
      have hall : (usedL M free).take (free - 2) = usedL M free := List.take_of_length_le (by rw [usedL_len]; exact Nat.le_refl _)
      have HWA := Lib.hid (show WordsAt wr (.slice a7 n7 c7) (allL M free (a * 2)) by
        have h := words_of_owns HOR.out
        rw [hall] at h
        exact h)
      have B4 := Lib.hid ((Below.refl _ wr).alloc (Nat.le_refl _) (.cells #[.int .u8 70, .int .u8 78, .int .u8 68, .int .u8 76] 5 (4, 5)))
      have PU := put_any _ [70, 78, 68, 76] 1 4 _ (bytes_four wr) (by simp)
      rw [headPut] at PU
      have PUH := Lib.hid PU
      have HGR := Lib.hid (HG2.out.trans (hbr.mono HG2.out.size))
      clear hgj hor hbr hall PU HOR HBR HO3 HUW
      go_wp2_with fail
      refine PUH.out.mono ?_
      rintro e w5 ⟨pv, rfl, hop, hg5⟩
      have hg5' := B4.out.trans (hg5.mono B4.out.size)
      have WD := Lib.hid (words_any _ _ w5 (HWA.out.later hg5') HSM.out (by rw [allL_len]; omega))
      have HP5 := Lib.hid hop
      have hz5 : wr.heap.size + 1 ≤ w5.heap.size := by have := hg5.size; simp at this; exact this
      have HG5 := Lib.hid (HGR.out.trans (hg5'.mono HGR.out.size))
      obtain ⟨pa, pn, pc, rfl⟩ : ∃ a n c, pv = .slice a n c := by obtain ⟨a, c, h, -⟩ := bytes_of_owns hop; exact ⟨_, _, _, h⟩
      clear hop hg5 hg5' PUH
      go_wp2_with fail
      refine WD.out.mono ?_
      rintro e w6 ⟨qv, rfl, hoq, hg6⟩
      have HP6 := Lib.hid (owns_later HP5.out hg6)
      have hz6 : wr.heap.size + 1 ≤ w6.heap.size := Nat.le_trans hz5 hg6.size
      have HG6 := Lib.hid (HG5.out.trans (hg6.mono HG5.out.size))
      have hql : 0 < (wordsL (allL M free (a * 2))).length := by rw [wordsL_len, allL_len]; omega
      obtain ⟨qg, qc, rfl, -⟩ := ownsB_form hoq hql
      have HQ6 := Lib.hid (bytes_of_owns hoq)
      obtain ⟨qa, qc2, hqe, hq1, hq2, hq3, -⟩ := bytes_of_owns hoq
      simp only [Value.slice.injEq] at hqe
      obtain ⟨rfl, -, rfl⟩ := hqe
      have HQ3 := Lib.hid (RowAt.add hq3)
      have hqlen : (wordsL (allL M free (a * 2))).length = 8 * (3 + (free - 2)) := by rw [wordsL_len, allL_len]
      rw [hqlen]
      clear hoq hg6 WD hq3 HP5 hql
      have b8 : headL.length = 8 := rfl
      go_wp2_with (at_builtin; refine wpList_append_own _ rfl _ _ 43 rfl _ 5 i2 (.int .u8 0) 1 1 Tryz.underlying43 hi2 hc0 hc1 hc2 rfl (by decide) _ _ _ rfl HP6.out ⟨qg, 0, none⟩ (8 * (3 + (free - 2))) qc (Lib.byteCells (wordsL (allL M free (a * 2)))) rfl ?c0 HQ3.out ?c2 ?c3 ?c4 ?c5 ?_)
      case c0 => rw [Lib.byteCells_length, hqlen]; omega
      case c2 => intro u hu; simp only [Lib.byteCells, List.mem_map] at hu; obtain ⟨y, _, rfl⟩ := hu; rfl
      case c3 => unfold maxLen; omega
      case c4 => omega
      case c5 => simpa using hz6
      intro v' w7 hown' hgrow _
      have hbl := bodyL_len M free (a * 2)
      have hob7 : OwnsB w7 (wr.heap.size + 1) v' (bodyL M free (a * 2)) := by
        unfold OwnsB
        rw [hbl, show Lib.byteCells (bodyL M free (a * 2)) = Lib.byteCells headL ++ Lib.byteCells (wordsL (allL M free (a * 2))) by simp [Lib.byteCells, bodyL], show 32 + 8 * (free - 2) = 8 + 8 * (3 + (free - 2)) by omega]
        exact hown'
      have hb7 : Below w.heap.size w w7 := HG6.out.grown hgrow HG6.out.size (fun q hq => by have := (HP6.out.lt q hq).1; simp at this; have := HGR.out.size; omega)
      have HB7 := Lib.hid hb7
      have HY7 := Lib.hid (bytes_of_owns hob7)
      obtain ⟨ya, yn, yc, rfl⟩ : ∃ a n c, v' = .slice a n c := by obtain ⟨a, c, h, -⟩ := bytes_of_owns hob7; exact ⟨_, _, _, h⟩
      have CR := Lib.hid (crc_any _ _ w7 HY7.out)
      obtain ⟨Z, hZ⟩ : ∃ Z, crc (nats (bodyL M free (a * 2))) = Z := ⟨_, rfl⟩
      rw [hZ] at CR
      have HZ := Lib.hid hZ
      have hzl : Z < 4294967296 := by rw [← hZ]; exact crc_lt32 _
      clear hown' hgrow hob7 hb7 hZ HP6 HQ3 HQ6 HWA
      go_wp2_with fail
      refine CR.out.mono ?_
      rintro e w8 ⟨rfl, hg8⟩
      have PU2 := put_any _ (bodyL M free (a * 2)) Z 4 w8 (HY7.out.later hg8) (by rw [hbl]; omega)
      rw [show bodyL M free (a * 2) ++ leBytes Z (clip8 4) = imgL M free (a * 2) by unfold imgL; rw [HZ.out]; rfl] at PU2
      have PU2H := Lib.hid PU2
      have HB8 := Lib.hid (HB7.out.trans (hg8.mono HB7.out.size))
      clear hg8 PU2
      go_wp2_with fail
      refine PU2H.out.mono ?_
      rintro e w9 ⟨zv, rfl, hoz, hg9⟩
      have HOZ := Lib.hid (owns_low hoz HB8.out.size)
      have HB9 := Lib.hid (HB8.out.trans (hg9.mono HB8.out.size))
      clear hoz hg9
      go_wp2_with fail
      exact bodyPost_ret (v := .tuple #[zv, .int .i64 0]) (by simp [results, Tryz.results9, go_sem]) rfl ⟨zv, rfl, HOZ.out, HB9.out⟩
theorem encode_yes (B h N free a : Nat) (S : Nat → Bool) (M : Nat → Nat) (w : World) (H : HeapAt w B h N free S M) (h2 : 2 ≤ free) (hN : N ≤ 900) (a0 : 1 ≤ a) (haN : a < 16777216) (ha : S a = true) :
    Calls Tryz.prog 9 #[.pointer (some ⟨h, 0, none⟩), .int .u64 (a * 2 : Int)] w fun e w' => ∃ v', e = .returned (.tuple #[v', .int .i64 0]) ∧ OwnsB w' w.heap.size v' (imgL M free (a * 2)) ∧ Below w.heap.size w w' :=
  encode_big B h N free a S M w H h2 (by omega) (by obtain ⟨g, s, -, -, -, -, h4, -⟩ := H; omega) a0 haN ha
end Go.Proofs.YtibopjjicfiimaaGreatDoor
namespace Go.Proofs.YtibopjjicfiimaaGreatDoor
open Go.RowKit
set_option linter.unusedVariables false
theorem bytesOf_nats (L : List UInt8) : Lib.bytesOf (L.map fun b => (b.toNat : Int)) = L := by
  unfold Lib.bytesOf
  rw [List.map_map]
  conv => rhs; rw [← List.map_id L]
  apply List.map_congr_left
  intro b _
  simp
/-- is it an image at all? -/
def Fits (L : List UInt8) : Prop := Lib.hasPrefix L headL = true ∧ getN (L.drop (L.length - 4)) 4 = crc (nats (L.take (L.length - 4)))
theorem prefix_any (v u : Value) (L H : List UInt8) (w : World) (hv : BytesAt w v L) (hu : BytesAt w u H) (hl : 0 < L.length) (hh : 0 < H.length) :
    Calls Tryz.prog 84 #[v, u] w fun e w' => e = .returned (.bool (Lib.hasPrefix L H)) ∧ w' = w := by
  obtain ⟨a, c, rfl, l1, l2, l3⟩ := hv.get
  obtain ⟨a', c', rfl, k1, k2, k3⟩ := hu.get
  obtain ⟨b, o, rfl, -⟩ := l3 0 hl
  obtain ⟨b', o', rfl, -⟩ := k3 0 hh
  have h := Tryz.bytes_HasPrefix b o L.length c b' o' H.length c' (L.map fun b => (b.toNat : Int)) (H.map fun b => (b.toNat : Int)) w (by simp) (by simp) l1
    (fun i hi => by
      obtain ⟨b2, o2, he, hc⟩ := l3 i hi
      simp at he
      obtain ⟨rfl, rfl⟩ := he
      rw [hc.2]
      simp [List.getD_eq_getElem?_getD, hi])
    (fun i hi => by
      obtain ⟨b2, o2, he, hc⟩ := k3 i hi
      simp at he
      obtain ⟨rfl, rfl⟩ := he
      rw [hc.2]
      simp [List.getD_eq_getElem?_getD, hi])
  rw [bytesOf_nats, bytesOf_nats] at h
  exact h
theorem getN4_lt (l : List UInt8) : getN l 4 < 4294967296 := by
  unfold getN
  split
  · have h := leVal_lt (l.take (clip8 4))
    have h4 : clip8 4 = 4 := by decide
    rw [h4] at h ⊢
    have hl : (l.take 4).length ≤ 4 := by rw [List.length_take]; omega
    exact Nat.lt_of_lt_of_le h (Nat.pow_le_pow_right (by omega) (show 8 * (l.take 4).length ≤ 32 by omega))
  · omega
set_option maxRecDepth 100000 in
set_option maxHeartbeats 1600000 in
theorem check_bad (v : Value) (L : List UInt8) (k : Nat) (w : World) (hv : BytesAt w v L) (hl : L.length = 36 + 8 * k) (hk : k ≤ 1000) (hbad : ¬ Fits L) :
    Calls Tryz.prog 44 #[v] w fun e w' => ∃ c : Int, e = .returned (.tuple #[.agg #[.int .u64 0, .int .u64 0, .int .u64 0], .int .i64 c]) ∧ c ≠ 0 ∧ Below w.heap.size w w' := by
  have kc := Go.Joins.run_convert_bytes_const_at (P := Tryz.prog) (w.alloc (.cells #[.int .u64 0, .int .u64 0, .int .u64 0] 104)) 43 5 #[.int .u8 70, .int .u8 78, .int .u8 68, .int .u8 76] 4 4 (w.heap.size + 1) (by simp) Tryz.underlying43 Tryz.underlying5
  have h4 := bytes_four (w.alloc (.cells #[.int .u64 0, .int .u64 0, .int .u64 0] 104))
  rw [show (w.alloc (.cells #[.int .u64 0, .int .u64 0, .int .u64 0] 104)).heap.size = w.heap.size + 1 by simp] at h4
  have PU := put_any _ [70, 78, 68, 76] 1 4 _ h4 (by simp)
  rw [headPut] at PU
  have PUH := Lib.hid PU
  have HB2 := Lib.hid (show Below w.heap.size w ((w.alloc (.cells #[.int .u64 0, .int .u64 0, .int .u64 0] 104)).alloc (.cells #[.int .u8 70, .int .u8 78, .int .u8 68, .int .u8 76] 5 (4, 5))) from ((Below.refl _ w).alloc (Nat.le_refl _) _).alloc (by simp) _)
  have HR2 := Lib.hid (show ((w.alloc (.cells #[.int .u64 0, .int .u64 0, .int .u64 0] 104)).alloc (.cells #[.int .u8 70, .int .u8 78, .int .u8 68, .int .u8 76] 5 (4, 5))).heap[w.heap.size]? = some (.cells #[.int .u64 0, .int .u64 0, .int .u64 0] 104 (0, 0)) from by rw [Below.heap_alloc _ _ _ (by simp)]; exact heap_alloc_new w _)
  clear h4 PU
  have HV := Lib.hid hv
  have HBAD := Lib.hid hbad
  obtain ⟨a, cap, hve, l1, l2, l3, l4⟩ := hv
  have hae : ∃ b o, a = some ⟨b, o, none⟩ := by
    rcases l3 with h | ⟨b, o, h, -⟩
    · have : (Lib.byteCells L).length = 0 := by rw [h]; rfl
      rw [Lib.byteCells_length] at this; omega
    · exact ⟨b, o, h⟩
  obtain ⟨b, o, rfl⟩ := hae
  rw [hl] at hve l1
  subst hve
  unfold maxLen at l2
  clear l3 l4 hbad
  go_enter Tryz.func44, Tryz.ntmps44
  go_wp2_with fail
  refine PUH.out.mono ?_
  rintro e w3 ⟨pv, rfl, hop, hg3⟩
  have HB3 := Lib.hid (HB2.out.trans (hg3.mono HB2.out.size))
  have HR3 := Lib.hid ((hg3.block w.heap.size (by simp; omega)).trans HR2.out)
  have HPX := Lib.hid (prefix_any _ pv L headL w3 (HV.out.later HB3.out) (bytes_of_owns hop) (by omega) (by decide))
  clear hop hg3 PUH kc HB2 HR2
  go_wp2_with fail
  refine HPX.out.mono ?_
  rintro e w4 ⟨rfl, rfl⟩
  have r0 := cellO HR3.out 0
  have r1 := cellO HR3.out 1
  have r2 := cellO HR3.out 2
  have fz : ∀ i, w4.frozen? ⟨w.heap.size, i, none⟩ = false := fun i => by unfold World.frozen?; rw [HR3.out]; rfl
  have fz0 := fz 0
  have fz1 := fz 1
  have fz2 := fz 2
  simp at r0 r1 r2
  clear fz
  cases hpx : Lib.hasPrefix L headL with
  | false =>
    go_wp2_with fail
    obtain ⟨wz, hwz⟩ : ∃ wz, wz = (((w4.setCell ⟨w.heap.size, 0, none⟩ (.int .u64 0)).setCell ⟨w.heap.size, 1, none⟩ (.int .u64 0)).setCell ⟨w.heap.size, 2, none⟩ (.int .u64 0)) := ⟨_, rfl⟩
    rw [← hwz]
    have hrr := HR3.out
    have rz : wz.heap[w.heap.size]? = some (.cells #[.int .u64 0, .int .u64 0, .int .u64 0] 104 (0, 0)) := by rw [hwz, heap_setCell_same _ _ _ _ _ _ (heap_setCell_same _ _ _ _ _ _ (heap_setCell_same _ _ _ _ _ _ hrr))]; rfl
    have bz : Below w.heap.size w wz := by rw [hwz]; exact ((HB3.out.setCell (p := ⟨w.heap.size, 0, none⟩) (Nat.le_refl _) _).setCell (p := ⟨w.heap.size, 1, none⟩) (Nat.le_refl _) _).setCell (p := ⟨w.heap.size, 2, none⟩) (Nat.le_refl _) _
    have t0 := cellO rz 0
    have t1 := cellO rz 1
    have t2 := cellO rz 2
    simp at t0 t1 t2
    exact bodyPost_ret (v := .tuple #[.agg #[.int .u64 0, .int .u64 0, .int .u64 0], .int .i64 3]) (by simp [results, Tryz.results44, go_sem, t0, t1, t2]) rfl ⟨3, rfl, by decide, bz⟩
  | true =>
    have hp : BytesAt w4 (.slice (some ⟨b, o + 8, none⟩) 24 (cap - 8)) ((L.take 32).drop 8) := by
      have h := HV.out.later HB3.out
      rw [← hl] at h
      have h2 := bytes_part h (m := 8) (n := 32) (by omega) (by omega)
      simpa [Addr.add] using h2
    have UW := Lib.hid (unwords_yes _ _ 3 w4 hp (by simp; omega) (by omega))
    have ncap : ¬ cap = 8 := by omega
    clear hp
    go_wp2_with fail
    refine UW.out.mono ?_
    rintro e w5 ⟨u, rfl, hou, hg5⟩
    have HB5 := Lib.hid (HB3.out.trans (hg5.mono HB3.out.size))
    have HR5 := Lib.hid ((hg5.block w.heap.size (Array.getElem?_eq_some_iff.1 HR3.out).1).trans HR3.out)
    obtain ⟨ug, uc, rfl, hu1, hu2⟩ := World.ownsRow.form hou (by omega)
    have u0 := hou.cellAt 0 (by omega)
    have u1 := hou.cellAt 1 (by omega)
    have u2 := hou.cellAt 2 (by omega)
    obtain ⟨q0, q1, q2, hq⟩ : ∃ q0 q1 q2 : Nat, wordVals (wordsOf ((L.take 32).drop 8) 3) = [.int .u64 (q0 : Int), .int .u64 (q1 : Int), .int .u64 (q2 : Int)] := ⟨wordAt _ 0, wordAt _ 1, wordAt _ 2, rfl⟩
    rw [hq] at u0 u1 u2
    simp at u0 u1 u2
    clear hou hg5 UW hq r0 r1 r2 fz0 fz1 fz2
    go_upto_region 6 with fail
    go_cut [6] from 28 to 37 (fun s6 wx => ∃ P, s6 = .pointer (some ⟨P, 0, none⟩) ∧ w5.heap.size ≤ P ∧ wx.heap[P]? = some (.cells #[.int .u64 (q0 : Int), .int .u64 (q1 : Int), .int .u64 (q2 : Int)] 104 (0, 0)) ∧ Below w5.heap.size w5 wx)
    case first =>
      go_region
      all_goals (go_wp2_with fail)
      all_goals go_meet
      all_goals exact ⟨_, rfl, Nat.le_refl _, heap_alloc_new w5 _, ((Below.refl _ w5).alloc (Nat.le_refl _) _).drew⟩
    case rest =>
      obtain ⟨P, rfl, hP, hpq, hgx⟩ := hcut
      obtain ⟨w6, hw6⟩ : ∃ w6, w6 = wc := ⟨_, rfl⟩
      rw [← hw6] at hpq hgx ⊢
      clear hw6
      have HB6 := Lib.hid (HB5.out.trans (hgx.mono HB5.out.size))
      have HR6 := Lib.hid ((hgx.block w.heap.size (Array.getElem?_eq_some_iff.1 HR5.out).1).trans HR5.out)
      have c0 := cellO hpq 0
      have r0 := cellO HR6.out 0
      have r1 := cellO HR6.out 1
      have r2 := cellO HR6.out 2
      have fz : ∀ i, w6.frozen? ⟨w.heap.size, i, none⟩ = false := fun i => by unfold World.frozen?; rw [HR6.out]; rfl
      have fz0 := fz 0
      have fz1 := fz 1
      have fz2 := fz 2
      simp at c0 r0 r1 r2
      clear fz hpq hgx u0 u1 u2
      by_cases hA : (k : Int) < q0
      · go_wp2_with fail
        all_goals try (exfalso; go_light; omega)
        obtain ⟨wz, hwz⟩ : ∃ wz, wz = (((w6.setCell ⟨w.heap.size, 0, none⟩ (.int .u64 0)).setCell ⟨w.heap.size, 1, none⟩ (.int .u64 0)).setCell ⟨w.heap.size, 2, none⟩ (.int .u64 0)) := ⟨_, rfl⟩
        rw [← hwz]
        have hrr := HR6.out
        have rz : wz.heap[w.heap.size]? = some (.cells #[.int .u64 0, .int .u64 0, .int .u64 0] 104 (0, 0)) := by rw [hwz, heap_setCell_same _ _ _ _ _ _ (heap_setCell_same _ _ _ _ _ _ (heap_setCell_same _ _ _ _ _ _ hrr))]; rfl
        have bz : Below w.heap.size w wz := by rw [hwz]; exact ((HB6.out.setCell (p := ⟨w.heap.size, 0, none⟩) (Nat.le_refl _) _).setCell (p := ⟨w.heap.size, 1, none⟩) (Nat.le_refl _) _).setCell (p := ⟨w.heap.size, 2, none⟩) (Nat.le_refl _) _
        have t0 := cellO rz 0
        have t1 := cellO rz 1
        have t2 := cellO rz 2
        simp at t0 t1 t2
        exact bodyPost_ret (v := .tuple #[.agg #[.int .u64 0, .int .u64 0, .int .u64 0], .int .i64 4]) (by simp [results, Tryz.results44, go_sem, t0, t1, t2]) rfl ⟨4, rfl, by decide, bz⟩
      · by_cases hC : (q0 : Int) * 8 = 8 * k
        · have hv6 := HV.out.later HB6.out
          have hE : 36 + 8 * k = L.length := by omega
          have hg : BytesAt w6 (.slice (some ⟨b, o + (36 + 8 * k - 4), none⟩) (36 + 8 * k - (36 + 8 * k - 4)) (cap - (36 + 8 * k - 4))) (L.drop (L.length - 4)) := by
            rw [hE] at hv6
            have h2 := bytes_part hv6 (m := L.length - 4) (n := L.length) (by omega) (Nat.le_refl _)
            rw [List.take_length] at h2
            rw [hE]
            have e : (⟨b, o, none⟩ : Addr).add (L.length - 4) = ⟨b, o + (L.length - 4), none⟩ := by unfold Addr.add; rw [if_neg (by omega)]
            simpa [e] using h2
          have ht : BytesAt w6 (.slice (some ⟨b, o, none⟩) (36 + 8 * k - 4) cap) (L.take (L.length - 4)) := by
            rw [hE] at hv6 ⊢
            exact bytes_take hv6 (by omega)
          have GE := get_any _ _ 4 w6 hg
          have CR := crc_any _ _ w6 ht
          have hne : getN (L.drop (L.length - 4)) 4 ≠ crc (nats (L.take (L.length - 4))) := fun e => HBAD.out ⟨hpx, e⟩
          have hx4 := getN4_lt (L.drop (L.length - 4))
          obtain ⟨X, hX⟩ : ∃ X, getN (L.drop (L.length - 4)) 4 = X := ⟨_, rfl⟩
          obtain ⟨Z, hZ⟩ : ∃ Z, crc (nats (L.take (L.length - 4))) = Z := ⟨_, rfl⟩
          obtain ⟨ge, hge⟩ : ∃ ge : Int, (if clip8 4 ≤ (L.drop (L.length - 4)).length then (0 : Int) else 4) = ge := ⟨_, rfl⟩
          rw [hX, hge] at GE
          rw [hZ] at CR
          rw [hX] at hne hx4
          rw [hZ] at hne
          have q9 : ((X : Int) != (Z : Int)) = true := by rw [bne_iff_ne]; omega
          have q10 : ((X : Int) == (Z : Int)) = false := by rw [beq_eq_false_iff_ne]; omega
          have GEH := Lib.hid GE; have CRH := Lib.hid CR
          have hneI : ¬ (X : Int) = (Z : Int) := by omega
          clear hv6 hE hg ht GE CR hX hZ hge hne
          go_wp2_with fail
          all_goals try (exfalso; go_light; omega)
          refine GEH.out.mono ?_
          rintro e w7 ⟨rfl, rfl⟩
          go_wp2_with fail
          refine CRH.out.mono ?_
          rintro e w8 ⟨rfl, hg8⟩
          have HB8 := Lib.hid (HB6.out.trans (hg8.mono HB6.out.size))
          have HR8 := Lib.hid ((hg8.block w.heap.size (Array.getElem?_eq_some_iff.1 HR6.out).1).trans HR6.out)
          have r0 := cellO HR8.out 0
          have r1 := cellO HR8.out 1
          have r2 := cellO HR8.out 2
          have fz : ∀ i, w8.frozen? ⟨w.heap.size, i, none⟩ = false := fun i => by unfold World.frozen?; rw [HR8.out]; rfl
          have fz0 := fz 0
          have fz1 := fz 1
          have fz2 := fz 2
          simp at r0 r1 r2
          clear fz hg8
          go_wp2_with fail
          obtain ⟨wz, hwz⟩ : ∃ wz, wz = (((w8.setCell ⟨w.heap.size, 0, none⟩ (.int .u64 0)).setCell ⟨w.heap.size, 1, none⟩ (.int .u64 0)).setCell ⟨w.heap.size, 2, none⟩ (.int .u64 0)) := ⟨_, rfl⟩
          rw [← hwz]
          have hrr := HR8.out
          have rz : wz.heap[w.heap.size]? = some (.cells #[.int .u64 0, .int .u64 0, .int .u64 0] 104 (0, 0)) := by rw [hwz, heap_setCell_same _ _ _ _ _ _ (heap_setCell_same _ _ _ _ _ _ (heap_setCell_same _ _ _ _ _ _ hrr))]; rfl
          have bz : Below w.heap.size w wz := by rw [hwz]; exact ((HB8.out.setCell (p := ⟨w.heap.size, 0, none⟩) (Nat.le_refl _) _).setCell (p := ⟨w.heap.size, 1, none⟩) (Nat.le_refl _) _).setCell (p := ⟨w.heap.size, 2, none⟩) (Nat.le_refl _) _
          have t0 := cellO rz 0
          have t1 := cellO rz 1
          have t2 := cellO rz 2
          simp at t0 t1 t2
          exact bodyPost_ret (v := .tuple #[.agg #[.int .u64 0, .int .u64 0, .int .u64 0], .int .i64 5]) (by simp [results, Tryz.results44, go_sem, t0, t1, t2]) rfl ⟨5, rfl, by decide, bz⟩
        · go_wp2_with fail
          all_goals try (exfalso; go_light; omega)
          obtain ⟨wz, hwz⟩ : ∃ wz, wz = (((w6.setCell ⟨w.heap.size, 0, none⟩ (.int .u64 0)).setCell ⟨w.heap.size, 1, none⟩ (.int .u64 0)).setCell ⟨w.heap.size, 2, none⟩ (.int .u64 0)) := ⟨_, rfl⟩
          rw [← hwz]
          have hrr := HR6.out
          have rz : wz.heap[w.heap.size]? = some (.cells #[.int .u64 0, .int .u64 0, .int .u64 0] 104 (0, 0)) := by rw [hwz, heap_setCell_same _ _ _ _ _ _ (heap_setCell_same _ _ _ _ _ _ (heap_setCell_same _ _ _ _ _ _ hrr))]; rfl
          have bz : Below w.heap.size w wz := by rw [hwz]; exact ((HB6.out.setCell (p := ⟨w.heap.size, 0, none⟩) (Nat.le_refl _) _).setCell (p := ⟨w.heap.size, 1, none⟩) (Nat.le_refl _) _).setCell (p := ⟨w.heap.size, 2, none⟩) (Nat.le_refl _) _
          have t0 := cellO rz 0
          have t1 := cellO rz 1
          have t2 := cellO rz 2
          simp at t0 t1 t2
          exact bodyPost_ret (v := .tuple #[.agg #[.int .u64 0, .int .u64 0, .int .u64 0], .int .i64 2]) (by simp [results, Tryz.results44, go_sem, t0, t1, t2]) rfl ⟨2, rfl, by decide, bz⟩
end Go.Proofs.YtibopjjicfiimaaGreatDoor
namespace Go.Proofs.YtibopjjicfiimaaGreatDoor
open Go.RowKit
set_option linter.unusedVariables false
set_option maxRecDepth 100000 in
theorem decode_bad (v : Value) (L : List UInt8) (k : Nat) (w : World) (hv : BytesAt w v L) (hl : L.length = 36 + 8 * k) (hk : k ≤ 1000) (hbad : ¬ Fits L) :
    Calls Tryz.prog 10 #[v, .int .i64 400] w fun e w' => ∃ c : Int, e = .returned (.tuple #[.pointer none, .int .u64 0, .int .i64 c]) ∧ c ≠ 0 ∧ Below w.heap.size w w' := by
  have NW := Lib.hid (new_yes 400 (by omega) (by omega) w)
  have HV := Lib.hid hv
  have CK := Lib.hid (fun W (hW : Below w.heap.size w W) => check_bad v L k W (hv.later hW) hl hk hbad)
  obtain ⟨a, cap, rfl, l1, l2, -⟩ := hv
  rw [hl] at CK ⊢
  rw [hl] at l1
  unfold maxLen at l2
  clear HV hbad hl
  go_enter Tryz.func10, Tryz.ntmps10
  go_wp2_with fail
  refine NW.out.mono ?_
  rintro e w1 ⟨h, rfl, -, hg1⟩
  have CK1 := Lib.hid (CK.out w1 hg1)
  have HG1 := Lib.hid hg1
  clear hg1 CK
  go_wp2_with fail
  refine CK1.out.mono ?_
  rintro e w2 ⟨c, rfl, hc, hg2⟩
  have HG2 := Lib.hid (HG1.out.trans (hg2.mono HG1.out.size))
  have HC := Lib.hid hc
  have q1 : (c != 0) = true := by rw [bne_iff_ne]; exact hc
  have q2 : (c == 0) = false := by rw [beq_eq_false_iff_ne]; exact hc
  clear hg2
  go_wp2_with fail
  exact bodyPost_ret (v := .tuple #[.pointer none, .int .u64 0, .int .i64 c]) (by simp [results, Tryz.results10, go_sem]) rfl ⟨c, rfl, HC.out, HG2.out.trans ((Below.refl _ w2).alloc HG2.out.size _)⟩
end Go.Proofs.YtibopjjicfiimaaGreatDoor
namespace Go.Proofs.YtibopjjicfiimaaGreatDoor
open Go.RowKit
set_option linter.unusedVariables false
theorem leVal_inj : ∀ {l m : List UInt8}, l.length = m.length → leVal l = leVal m → l = m := by
  intro l
  induction l with
  | nil => intro m h _; cases m with
    | nil => rfl
    | cons _ _ => simp at h
  | cons c l ih =>
    intro m h hv
    cases m with
    | nil => simp at h
    | cons d m =>
      unfold leVal at hv
      have hc := c.toNat_lt; have hd := d.toNat_lt
      have e1 : c.toNat = d.toNat := by omega
      have e2 : leVal l = leVal m := by omega
      rw [UInt8.toNat_inj.1 e1, ih (by simpa using h) e2]
theorem nats_set (l : List UInt8) (i : Nat) (c : UInt8) (hi : i < l.length) : nats (l.set i c) = (nats (l.take i)) ++ c.toNat :: nats (l.drop (i + 1)) := by
  rw [List.set_eq_take_append_cons_drop, if_pos hi]
  simp [nats]
theorem nats_split (l : List UInt8) (i : Nat) (hi : i < l.length) : nats l = (nats (l.take i)) ++ (l[i]).toNat :: nats (l.drop (i + 1)) := by
  have h : l = l.take i ++ l[i] :: l.drop (i + 1) := by rw [← List.drop_eq_getElem_cons hi, List.take_append_drop]
  conv => lhs; rw [h]
  simp only [nats, List.map_append, List.map_cons]
theorem crc_set (l : List UInt8) (i : Nat) (c : UInt8) (hi : i < l.length) (hne : l[i] ≠ c) : crc (nats (l.set i c)) ≠ crc (nats l) := by
  have hlt : ∀ m : List UInt8, ∀ e ∈ nats m, e < 256 := fun m e he => by
    obtain ⟨x, _, rfl⟩ := List.mem_map.1 he
    exact x.toNat_lt
  rw [nats_set l i c hi, nats_split l i hi]
  intro e
  unfold crc at e
  have h := crcFrom_change (x := 4294967295) (a := nats (l.take i)) (b := nats (l.drop (i + 1))) (c := c.toNat) (d := (l[i]).toNat) (by omega) (hlt _) (hlt _) c.toNat_lt (l[i]).toNat_lt (fun h => hne (UInt8.toNat_inj.1 h).symm)
  exact h (by
    have := congrArg (fun x => x ^^^ 4294967295) e
    simpa [Nat.xor_assoc] using this)
theorem prefix_take {L : List UInt8} (h : Lib.hasPrefix L headL = true) : L.take 8 = headL := by
  unfold Lib.hasPrefix at h
  have h2 := List.isPrefixOf_iff_prefix.1 h
  obtain ⟨t, ht⟩ := h2
  rw [← ht]
  exact List.take_left' (l₁ := headL) rfl
theorem changed_unfit (M : Nat → Nat) (free root i : Nat) (c : UInt8) (hi : i < (imgL M free root).length) (hne : (imgL M free root)[i] ≠ c) : ¬ Fits ((imgL M free root).set i c) := by
  rintro ⟨hp, hs⟩
  have hl := imgL_len M free root
  have hbl := bodyL_len M free root
  rw [List.length_set, hl] at hs
  rw [show 36 + 8 * (free - 2) - 4 = (bodyL M free root).length by omega] at hs
  obtain ⟨B, hB⟩ : ∃ B, bodyL M free root = B := ⟨_, rfl⟩
  have hZ := crc_lt32 B
  have himg : imgL M free root = B ++ leBytes (crc (nats B)) 4 := by unfold imgL; rw [hB]
  rw [hB] at hs hbl
  simp only [himg] at hi hne hs hp
  have hll := leBytes_len (crc (nats B)) 4
  rw [List.length_append, hll] at hi
  by_cases h8 : i < 8
  · have ht := prefix_take hp
    have hb8 : B.take 8 = headL := by rw [← hB]; unfold bodyL; exact List.take_left' (l₁ := headL) rfl
    have e1 : ((B ++ leBytes (crc (nats B)) 4).set i c)[i]? = some c := List.getElem?_set_self (by rw [List.length_append]; omega)
    have e2 : (((B ++ leBytes (crc (nats B)) 4).set i c).take 8)[i]? = some c := by rw [List.getElem?_take, if_pos h8]; exact e1
    rw [ht, ← hb8, List.getElem?_take, if_pos h8] at e2
    rw [List.getElem_append_left (by omega)] at hne
    exact hne (by rw [List.getElem?_eq_getElem (by omega)] at e2; exact Option.some.inj e2)
  · by_cases hb : i < B.length
    · rw [List.set_append_left _ _ hb] at hs
      rw [List.take_left' (by rw [List.length_set]), List.drop_left' (by rw [List.length_set])] at hs
      rw [List.getElem_append_left hb] at hne
      have hg : getN (leBytes (crc (nats B)) 4) 4 = crc (nats B) := by
        unfold getN
        rw [hll, if_pos (by decide), show clip8 4 = 4 by decide, List.take_of_length_le (by omega), leVal_le]
        exact Nat.mod_eq_of_lt (by omega)
      rw [hg] at hs
      exact crc_set B i c hb hne hs.symm
    · rw [List.set_append_right _ _ (by omega)] at hs
      rw [List.take_left' rfl, List.drop_left' rfl] at hs
      rw [List.getElem_append_right (by omega)] at hne
      have hg : getN ((leBytes (crc (nats B)) 4).set (i - B.length) c) 4 = leVal ((leBytes (crc (nats B)) 4).set (i - B.length) c) := by
        unfold getN
        rw [List.length_set, hll, if_pos (by decide), show clip8 4 = 4 by decide, List.take_of_length_le (by rw [List.length_set]; omega)]
      have hv : leVal (leBytes (crc (nats B)) 4) = crc (nats B) := by rw [leVal_le]; exact Nat.mod_eq_of_lt (by omega)
      have hs2 := (hg.symm.trans hs).trans hv.symm
      have hs' := leVal_inj (by rw [List.length_set]) hs2
      have e1 : ((leBytes (crc (nats B)) 4).set (i - B.length) c)[i - B.length]? = some c := List.getElem?_set_self (by omega)
      rw [hs', List.getElem?_eq_getElem (by omega)] at e1
      exact hne (Option.some.inj e1)
end Go.Proofs.YtibopjjicfiimaaGreatDoor
