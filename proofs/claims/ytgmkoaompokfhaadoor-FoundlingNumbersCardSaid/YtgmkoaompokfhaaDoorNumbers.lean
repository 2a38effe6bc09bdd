/- FoundlingNumbers: numbers are words, words are bytes, and both are read back; what is reckoned of them is written and read as text: for every list. -/
import Derived.Test.YtgmkoaompokfhaaDoorSmallC
import Derived.Test.YtgmkoaompokfhaaDoorNumLaid
import Derived.Test.YtgmkoaompokfhaaDoorTie
import Derived.Test.YtgmkoaompokfhaaDoorCards
import Derived.ChangeOld
namespace Go.Proofs.YtgmkoaompokfhaaDoor.foundlingNumbers
open Go.ChangeShapes Go.WideShapes Go.ChangeAt Go.RowKit
set_option linter.unusedVariables false
def wsOf (l : List Int) : List Nat := l.map fun x => wordN (x / 2)
theorem owns_shape {w : World} {B e s n : Nat} {v : Value} {xs : List Value} (h : w.ownsRow B e s v n xs) (hn : 0 < n) : ∃ g cap, v = .slice (some ⟨g, 0, none⟩) n cap ∧ B ≤ g := by
  rcases h.2 with ⟨-, h0⟩ | ⟨g, cap, cur, hv, hb, -⟩
  · omega
  · exact ⟨g, cap, hv, hb⟩
theorem wsOf_small (l : List Int) : SmallW (wsOf l) := fun x hx => by
  obtain ⟨y, _, rfl⟩ := List.mem_map.1 hx
  exact wordN_lt _
theorem wsOf_snoc (l : List Int) (i : Nat) (h : i < l.length) : wsOf (l.take (i + 1)) = wsOf (l.take i) ++ [wordN (l[i] / 2)] := by
  unfold wsOf
  rw [List.take_succ_eq_append_getElem h, List.map_append]
  rfl
theorem wordsL_app (a b : List Nat) : wordsL (a ++ b) = wordsL a ++ wordsL b := by unfold wordsL; rw [List.flatMap_append]
theorem nats_app (a b : List UInt8) : nats (a ++ b) = nats a ++ nats b := by unfold nats; rw [List.map_append]
theorem nats_lt (l : List UInt8) : ∀ c, c ∈ nats l → c < 256 := fun c hc => by
  obtain ⟨x, _, rfl⟩ := List.mem_map.1 hc
  exact x.toNat_lt
def sumOf (l : List Int) : Nat := crcFrom 4294967295 (nats (wordsL (wsOf l)))
theorem sumOf_lt (l : List Int) : sumOf l < 4294967296 := crcFrom_lt (by omega) (nats_lt _)
theorem sumOf_snoc (l : List Int) (i : Nat) (h : i < l.length) : sumOf (l.take (i + 1)) = crcFrom (sumOf (l.take i)) (nats (wordsL [wordN (l[i] / 2)])) := by
  unfold sumOf
  rw [wsOf_snoc l i h, wordsL_app, nats_app, crcFrom_append]
theorem words_one (w : World) (x : Nat) : WordsAt (w.alloc (.cells #[.int .u64 (x : Int)] 27)) (.slice (some ⟨w.heap.size, 0, none⟩) 1 1) [x] :=
  words_of_owns (World.ownsRow_lit (base := w.heap.size) (size := 1) (e := 27) w #[.int .u64 (x : Int)] 1 (Nat.le_refl _) (by decide) rfl)
theorem one_small (n : Int) : SmallW [wordN n] := fun y hy => by
  have : y = wordN n := by simpa using hy
  rw [this]; exact wordN_lt n
theorem seven_small : SmallW [7] := fun y hy => by
  have : y = 7 := by simpa using hy
  omega
theorem num_half {x : Int} (h0 : -9223372036854775808 ≤ x) (h1 : x ≤ 9223372036854775807) : isNum (x / 2) := by unfold isNum; omega
set_option maxRecDepth 100000 in
set_option maxHeartbeats 1600000 in
theorem walk (v : Value) (list : List Int) (w : World) (hv : NumsAt w .i64 v list) (hT : Lib.TabIs Tryd.prog w "internal/strconv.uint64pow10" .u64 Lib.pow10Tab) :
    Calls Tryd.prog 3 #[v] w fun e w' => e = .returned (.bool true) ∧ Below w.heap.size w w' := by
  obtain ⟨i1, hi1, hy0, hy1, hy2⟩ := info_parts u64Info
  obtain ⟨la, lc, rfl, l1, l2, -, l4⟩ := hv
  unfold maxLen at l2
  have L4 := Lib.hid l4; have HT := Lib.hid hT
  clear l4 hT
  go_enter Tryd.func3, Tryd.ntmps3
  go_wp2_with fail
  obtain ⟨w1, hw1⟩ : ∃ w1, w1 = w.alloc (.cells #[.int .u32 0] 26) := ⟨_, rfl⟩
  rw [← hw1]
  have hs1 : w1.heap[w.heap.size]? = some (.cells #[.int .u32 ((sumOf (list.take 0) ^^^ 4294967295 : Nat) : Int)] 26 (0, 0)) := by
    rw [hw1, show sumOf (list.take 0) ^^^ 4294967295 = 0 by show crcFrom 4294967295 [] ^^^ 4294967295 = 0; exact Nat.xor_self _]
    exact heap_alloc_new w _
  have hb1 : Below w.heap.size w w1 := by rw [hw1]; exact (Below.refl _ w).alloc (Nat.le_refl _) _
  have HS1 := Lib.hid hs1; have HB1 := Lib.hid hb1
  clear hw1 hs1 hb1
  go_loopg [3, 5, 6, 7] 41 (fun gg s3 s5 s6 s7 wr => ∃ (i : Nat) (wa : Option Addr) (wn wc tv : Nat) (ok : Bool), gg = 41 - i ∧ i ≤ 40 ∧ i ≤ list.length ∧ s7 = .int .i64 (i : Int) ∧ s3 = .slice wa wn wc ∧ s6 = .bool ok ∧ s5 = .int .u64 (tv : Int) ∧ (ok = true → ∃ t, isNum t ∧ tv = wordN t) ∧
    wr.heap[w.heap.size]? = some (.cells #[.int .u32 ((sumOf (list.take i) ^^^ 4294967295 : Nat) : Int)] 26 (0, 0)) ∧ wr.ownsRow (w.heap.size + 1) 27 1 (.slice wa wn wc) i (wordVals (wsOf (list.take i))) ∧ Below w.heap.size w wr)
  case atStart => exact ⟨0, none, 0, 0, 1, true, rfl, by omega, by omega, rfl, rfl, rfl, rfl, fun _ => ⟨0, ⟨by omega, by omega⟩, rfl⟩, HS1.out, World.ownsRow_nil _ _ _ _, HB1.out⟩
  case round =>
    obtain ⟨i, wa, wn, wc, tv, ok, hgi, hi40, hil, rfl, rfl, rfl, rfl, hok, hsum, how, hbr⟩ := hrel
    have HGI := Lib.hid hgi; have HOK := Lib.hid hok; have HSUM := Lib.hid hsum; have HOW := Lib.hid how; have HBR := Lib.hid hbr
    have hlr := (Array.getElem?_eq_some_iff.1 hsum).1
    clear hgi hok hsum how hbr
    by_cases hgo : i < list.length ∧ i < 40
    · obtain ⟨hg1, hg2⟩ := hgo
      have hg2' : (i : Int) < 40 := by omega
      obtain ⟨b, o, rfl, hcc, hwf⟩ := L4.out i hg1
      have bx := bounds_i64 hwf
      have hc := (HBR.out.cell (p := ⟨b, o + i, none⟩) (lt_of_cell hcc)).trans hcc
      have hn := num_half bx.1 bx.2
      have hsn := sumOf_snoc list i hg1
      have hwn := wsOf_snoc list i hg1
      obtain ⟨x, hx⟩ : ∃ x, list[i] = x := ⟨_, rfl⟩
      rw [hx] at hc bx hn hsn hwn
      have HSN := Lib.hid hsn; have HWN := Lib.hid hwn
      obtain ⟨n, hne⟩ : ∃ n, x / 2 = n := ⟨_, rfl⟩
      rw [hne] at hn HSN HWN
      have HN := Lib.hid hn
      have q5 : (n != n) = false := bne_self_eq_false _
      clear hcc hwf hx hsn hwn
      have OF := Lib.hid (of_yes n hn.1 hn.2 wr)
      have TX := Lib.hid (text_any n hn wr (tabis_later HT.out HBR.out))
      clear hn
      go_wp2_with fail
      refine OF.out.mono ?_
      rintro e w2 ⟨rfl, rfl⟩
      go_wp2_with fail
      refine TX.out.mono ?_
      rintro e w3 ⟨rfl, hg3⟩
      have PA := Lib.hid (parse_any n HN.out w3)
      have hs3 := (hg3.block w.heap.size hlr).trans HSUM.out
      have ho3 := owns_later HOW.out hg3
      have hb3 := HBR.out.trans (hg3.mono HBR.out.size)
      have HSUM3 := Lib.hid hs3; have HOW3 := Lib.hid ho3; have HB3 := Lib.hid hb3
      clear hg3 hs3 ho3 hb3 TX OF hc hlr HSUM HOW HBR
      go_wp2_with fail
      refine PA.out.mono ?_
      rintro e w4 ⟨rfl, hg4⟩
      have hlr := (Array.getElem?_eq_some_iff.1 HSUM3.out).1
      have hs4 := (hg4.block w.heap.size hlr).trans HSUM3.out
      have ho4 := owns_later HOW3.out hg4
      have hb4 := HB3.out.trans (hg4.mono HB3.out.size)
      have hz4 := (Array.getElem?_eq_some_iff.1 hs4).1
      have HSUM4 := Lib.hid hs4; have HOW4 := Lib.hid ho4; have HB4 := Lib.hid hb4
      clear hg4 hs4 ho4 hb4 PA hlr HSUM3 HOW3 HB3
      go_wp2_with (at_builtin; refine wpList_append_own _ rfl _ _ 23 rfl (w.heap.size + 1) 27 i1 (.int .u64 0) 1 8 Tryd.underlying23 hi1 hy0 hy1 hy2 rfl (by decide) _ _ _ rfl (HOW4.out.alloc _) ⟨w4.heap.size, 0, none⟩ 1 1 [.int .u64 (wordN n : Int)] rfl rfl ?c1 ?c2 ?c3 ?c4 ?c5 ?_)
      case c1 =>
        intro j u hj
        match j, hj with
        | 0, hj => simp at hj; subst hj; simp [Addr.add]
      case c2 => intro u hu; simp at hu; subst hu; rfl
      case c3 => unfold maxLen; omega
      case c4 => omega
      case c5 => simp; omega
      intro v' w5 hown' hgrow _
      obtain ⟨g5, c5, rfl, hg5⟩ := owns_shape hown' (by omega)
      have hs5 := (hgrow.block w.heap.size (by simp; omega) (fun e => by have := (HOW4.out.lt _ e.symm).1; omega)).trans ((Below.heap_alloc _ _ _ hz4).trans HSUM4.out)
      have hb5 : Below w.heap.size w w5 := (HB4.out.alloc (by omega) _).grown hgrow (by simp; omega) (fun q hq => by have := (HOW4.out.lt q hq).1; omega)
      have ho5 : w5.ownsRow (w.heap.size + 1) 27 1 (.slice (some ⟨g5, 0, none⟩) (i + 1) c5) (i + 1) (wordVals (wsOf (list.take (i + 1)))) := by
        rw [HWN.out, show wordVals (wsOf (list.take i) ++ [wordN n]) = wordVals (wsOf (list.take i)) ++ [.int .u64 (wordN n : Int)] by simp [wordVals]]
        exact hown'
      have hlr := (Array.getElem?_eq_some_iff.1 hs5).1
      have hw5 := words_one w5 (wordN n)
      have hb5a : Below w5.heap.size w5 (w5.alloc (.cells #[.int .u64 (wordN n : Int)] 27)) := (Below.refl _ w5).alloc (Nat.le_refl _) _
      have WD := Lib.hid (words_any _ [wordN n] _ hw5 (one_small n) (by simp))
      have HS5 := Lib.hid hs5; have HB5 := Lib.hid hb5; have HO5 := Lib.hid ho5; have HB5a := Lib.hid hb5a
      clear hown' hgrow hs5 hb5 ho5 hw5 hb5a HSUM4 HOW4 HB4 hz4
      go_wp2_with fail
      refine WD.out.mono ?_
      rintro e w6 ⟨bv, rfl, hob6, hg6⟩
      have hg6' := HB5a.out.trans (hg6.mono HB5a.out.size)
      have hs6 := (hg6'.block w.heap.size hlr).trans HS5.out
      have ho6 := owns_later HO5.out hg6'
      have hb6 := HB5.out.trans (hg6'.mono HB5.out.size)
      have s0 := cellO hs6 0
      have sf : w6.frozen? ⟨w.heap.size, 0, none⟩ = false := by unfold World.frozen?; rw [hs6]; rfl
      simp at s0
      have AD := Lib.hid (add_any w.heap.size (sumOf (list.take i)) (sumOf_lt _) bv _ w6 (bytes_of_owns hob6) s0 sf)
      rw [← HSN.out] at AD
      have HS6 := Lib.hid hs6; have HO6 := Lib.hid ho6; have HB6 := Lib.hid hb6
      clear hg6 hg6' hs6 ho6 hb6 hob6 s0 sf HS5 HB5 HO5 HB5a WD hlr
      go_wp2_with fail
      refine AD.out.mono ?_
      rintro e w7 ⟨rfl, hw7⟩
      have hs7 : w7.heap[w.heap.size]? = some (.cells #[.int .u32 ((sumOf (list.take (i + 1)) ^^^ 4294967295 : Nat) : Int)] 26 (0, 0)) := by rw [hw7]; exact heap_setCell_same _ _ _ _ _ _ HS6.out
      have hb7 : Below w.heap.size w w7 := by rw [hw7]; exact HB6.out.setCell (p := ⟨w.heap.size, 0, none⟩) (Nat.le_refl _) _
      have ho7 : w7.ownsRow (w.heap.size + 1) 27 1 (.slice (some ⟨g5, 0, none⟩) (i + 1) c5) (i + 1) (wordVals (wsOf (list.take (i + 1)))) := by rw [hw7]; exact ownsRow_setCell_below HO6.out (by simp) _
      have HS7 := Lib.hid hs7; have HB7 := Lib.hid hb7; have HO7 := Lib.hid ho7
      clear hw7 hs7 hb7 ho7 HS6 HO6 HB6 AD
      cases ok with
      | false =>
        go_wp2_with fail
        go_roundg (41 - (i + 1))
        case measure => rw [HGI.out]; omega
        case rel => exact ⟨i + 1, _, _, _, tv, false, rfl, by omega, by omega, by go_num, rfl, rfl, rfl, fun h => (by cases h), HS7.out, HO7.out, HB7.out⟩
      | true =>
        obtain ⟨t, ht, rfl⟩ := HOK.out rfl
        have HTT := Lib.hid ht
        clear ht
        have AW := Lib.hid (addw_any t n HTT.out HN.out w7)
        by_cases hsum : isNum (t + n)
        · rw [if_pos hsum] at AW
          have HSM := Lib.hid hsum
          clear hsum
          go_wp2_with fail
          refine AW.out.mono ?_
          rintro e w8 ⟨rfl, hg8⟩
          have RV := Lib.hid (rvalue_yes t HTT.out.1 HTT.out.2 w8)
          have HG8 := Lib.hid hg8
          clear hg8
          go_wp2_with fail
          refine RV.out.mono ?_
          rintro e w9 ⟨rfl, hg9⟩
          have RD := Lib.hid (rdo_yes t n HTT.out HN.out HSM.out w9)
          have HG9 := Lib.hid (HG8.out.trans (hg9.mono HG8.out.size))
          clear hg9
          go_wp2_with fail
          refine RD.out.mono ?_
          rintro e w10 ⟨rfl, hg10⟩
          have RV2 := Lib.hid (rvalue_yes (t + n) HSM.out.1 HSM.out.2 w10)
          have HG10 := Lib.hid (HG9.out.trans (hg10.mono HG9.out.size))
          have q6 : (t + n != t + n) = false := bne_self_eq_false _
          clear hg10
          go_wp2_with fail
          refine RV2.out.mono ?_
          rintro e w11 ⟨rfl, hg11⟩
          have HG11 := Lib.hid (HG10.out.trans (hg11.mono HG10.out.size))
          clear hg11
          go_wp2_with fail
          go_roundg (41 - (i + 1))
          case measure => rw [HGI.out]; omega
          case rel => exact ⟨i + 1, _, _, _, wordN (t + n), true, rfl, by omega, by omega, by go_num, rfl, rfl, rfl, fun _ => ⟨t + n, HSM.out, rfl⟩, (HG11.out.block _ (Array.getElem?_eq_some_iff.1 HS7.out).1).trans HS7.out, owns_later HO7.out HG11.out, HB7.out.trans (HG11.out.mono HB7.out.size)⟩
        · rw [if_neg hsum] at AW
          have HSM := Lib.hid hsum
          clear hsum
          go_wp2_with fail
          refine AW.out.mono ?_
          rintro e w8 ⟨rfl, hg8⟩
          have RV := Lib.hid (rvalue_yes t HTT.out.1 HTT.out.2 w8)
          have HG8 := Lib.hid hg8
          clear hg8
          go_wp2_with fail
          refine RV.out.mono ?_
          rintro e w9 ⟨rfl, hg9⟩
          have RD := Lib.hid (rdo_no t n HTT.out HN.out HSM.out w9)
          have HG9 := Lib.hid (HG8.out.trans (hg9.mono HG8.out.size))
          clear hg9
          go_wp2_with fail
          refine RD.out.mono ?_
          rintro e w10 ⟨rfl, hg10⟩
          have HG10 := Lib.hid (HG9.out.trans (hg10.mono HG9.out.size))
          clear hg10
          go_wp2_with fail
          go_roundg (41 - (i + 1))
          case measure => rw [HGI.out]; omega
          case rel => exact ⟨i + 1, _, _, _, 0, false, rfl, by omega, by omega, by go_num, rfl, rfl, rfl, fun h => (by cases h), (HG10.out.block _ (Array.getElem?_eq_some_iff.1 HS7.out).1).trans HS7.out, owns_later HO7.out HG10.out, HB7.out.trans (HG10.out.mono HB7.out.size)⟩
    · have hwl : (wsOf (list.take i)).length = i := by unfold wsOf; rw [List.length_map, List.length_take]; omega
      have WD := Lib.hid (words_any _ _ wr (words_of_owns HOW.out) (wsOf_small _) (by rw [hwl]; omega))
      by_cases hl : (i : Int) < list.length
      · have h40 : ¬ (i : Int) < 40 := by omega
        go_wp2_with fail
        refine WD.out.mono ?_
        rintro e w2 ⟨bv, rfl, hob2, hg2⟩
        have HBY := Lib.hid (bytes_of_owns hob2)
        obtain ⟨ba, bn, bc, rfl⟩ : ∃ ba bn bc, bv = .slice ba bn bc := by obtain ⟨a, c, h, -⟩ := bytes_of_owns hob2; exact ⟨_, _, _, h⟩
        have UW := unwords_yes _ (wordsL (wsOf (list.take i))) i w2 HBY.out (by rw [wordsL_len, hwl]) (by omega)
        have hww := wordsOf_words (wsOf (list.take i)) (wsOf_small _)
        rw [hwl] at hww
        rw [hww] at UW
        have UWH := Lib.hid UW
        have HS2 := Lib.hid ((hg2.block w.heap.size hlr).trans HSUM.out)
        have HW2 := Lib.hid ((words_of_owns HOW.out).later hg2)
        have HB2 := Lib.hid (HBR.out.trans (hg2.mono HBR.out.size))
        clear hob2 hg2 UW hww WD HSUM HOW hlr
        go_wp2_with fail
        refine UWH.out.mono ?_
        rintro e w3 ⟨u, rfl, hu3, hg3⟩
        obtain ⟨ua, uc, hue, hu1, hu2, hu4⟩ := (words_of_owns hu3).get
        rw [hwl] at hu1 hue
        subst hue
        have HU3 := Lib.hid (words_of_owns hu3)
        have hS2 := (Array.getElem?_eq_some_iff.1 HS2.out).1
        have HS3 := Lib.hid ((hg3.block w.heap.size hS2).trans HS2.out)
        have HW3 := Lib.hid (HW2.out.later hg3)
        have HBY3 := Lib.hid (HBY.out.later hg3)
        have HB3 := Lib.hid (HB2.out.trans (hg3.mono HB2.out.size))
        have SA := same_any _ _ _ _ w3 HU3.out HW3.out
        rw [decide_eq_true rfl] at SA
        have SAH := Lib.hid SA
        clear hu3 hg3 UWH hS2 HS2 HW2 HB2 HBY SA hu4
        go_wp2_with fail
        refine SAH.out.mono ?_
        rintro e w4 ⟨rfl, hg4⟩
        have hs4 := (hg4.block w.heap.size (Array.getElem?_eq_some_iff.1 HS3.out).1).trans HS3.out
        have s0 := cellO hs4 0
        simp only [List.getElem?_toArray, List.getElem?_cons_zero] at s0
        have VA := Lib.hid (value_any w.heap.size _ w4 s0)
        have hBY4 := HBY3.out.later hg4
        have CR := crc_any _ _ w4 hBY4
        rw [show crc (nats (wordsL (wsOf (list.take i)))) = sumOf (list.take i) ^^^ 4294967295 from rfl] at CR
        have CRH := Lib.hid CR
        have HBY4 := Lib.hid hBY4
        have HU4 := Lib.hid (HU3.out.later hg4)
        have HB4 := Lib.hid (HB3.out.trans (hg4.mono HB3.out.size))
        obtain ⟨Z, hZ⟩ : ∃ Z : Nat, sumOf (list.take i) ^^^ 4294967295 = Z := ⟨_, rfl⟩
        rw [hZ] at VA CRH
        have q7 : ((Z : Int) != (Z : Int)) = false := bne_self_eq_false _
        have HZ := Lib.hid hZ
        clear hs4 s0 hg4 CR hBY4 SAH HS3 HW3 HBY3 HB3 HU3 hZ
        go_wp2_with fail
        refine VA.out.mono ?_
        rintro e w5 ⟨rfl, rfl⟩
        go_wp2_with fail
        refine CRH.out.mono ?_
        rintro e w6 ⟨rfl, hg6⟩
        have hBY6 := HBY4.out.later hg6
        have CR2 := crc_any _ _ w6 hBY6
        rw [show crc (nats (wordsL (wsOf (list.take i)))) = Z from HZ.out] at CR2
        have CR2H := Lib.hid CR2
        have HBY6 := Lib.hid hBY6
        have HU6 := Lib.hid (HU4.out.later hg6)
        have HB6 := Lib.hid (HB4.out.trans (hg6.mono HB4.out.size))
        clear hg6 hBY6 CR2 VA CRH HBY4 HU4 HB4
        go_wp2_with fail
        refine CR2H.out.mono ?_
        rintro e w7 ⟨rfl, hg7⟩
        have hBY7 := HBY6.out.later hg7
        have CR3 := rcrc_any _ _ w7 hBY7
        rw [show crc (nats (wordsL (wsOf (list.take i)))) = Z from HZ.out] at CR3
        have CR3H := Lib.hid CR3
        have HU7 := Lib.hid (HU6.out.later hg7)
        have HB7 := Lib.hid (HB6.out.trans (hg7.mono HB6.out.size))
        clear hg7 hBY7 CR3 CR2H HBY6 HU6 HB6
        go_wp2_with fail
        refine CR3H.out.mono ?_
        rintro e w8 ⟨rfl, rfl⟩
        clear CR3H
        go_wp2_with fail
        go_loopg [129] i (fun gg s129 wr => ∃ k : Nat, gg = i - k ∧ k ≤ i ∧ s129 = .int .i64 (k : Int) ∧ Below w8.heap.size w8 wr)
        case atStart => exact ⟨0, rfl, by omega, rfl, Below.refl _ _⟩
        case round =>
          obtain ⟨k, hgk, hki, rfl, hbq⟩ := hrel
          have HGK := Lib.hid hgk; have HBQ := Lib.hid hbq
          clear hgk hbq
          by_cases hk : k < i
          · obtain ⟨lb, lo, rfl, hlc, hlw⟩ := L4.out k (by omega)
            have bk := bounds_i64 hlw
            have hlc1 := ((HB7.out.trans (HBQ.out.mono HB7.out.size)).cell (p := ⟨lb, lo + k, none⟩) (lt_of_cell hlc)).trans hlc
            obtain ⟨ua2, uc2, hue2, -, -, hcu⟩ := HU7.out.get
            simp only [Value.slice.injEq] at hue2
            obtain ⟨rfl, -, rfl⟩ := hue2
            obtain ⟨ub, uo, hua, hul, huc⟩ := hcu k (by omega)
            subst hua
            have huc1 := (HBQ.out.cell (p := ⟨ub, uo + k, none⟩) hul).trans huc
            have hel : (wsOf (list.take i))[k]'(by omega) = wordN (list[k] / 2) := by simp [wsOf]
            rw [hel] at huc1
            have hnk := num_half bk.1 bk.2
            obtain ⟨x, hx⟩ : ∃ x, list[k] = x := ⟨_, rfl⟩
            rw [hx] at hlc1 huc1 bk hnk
            have hul' : ub < wr.heap.size := by have := HBQ.out.size; omega
            have VY := Lib.hid (value_yes (x / 2) hnk.1 hnk.2 wr)
            have q8 : (x / 2 != x / 2) = false := bne_self_eq_false _
            clear hlc hlw huc hel hx hnk hcu
            go_wp2_with fail
            refine VY.out.mono ?_
            rintro e w9 ⟨rfl, rfl⟩
            go_wp2_with fail
            go_roundg (i - (k + 1))
            case measure => rw [HGK.out]; omega
            case rel => exact ⟨k + 1, rfl, by omega, by go_num, HBQ.out⟩
          · have W7 := Lib.hid (words_any _ [7] _ (words_one wr 7) seven_small (by simp))
            have HBA := Lib.hid (HB7.out.trans ((HBQ.out.trans (((Below.refl _ wr).alloc (Nat.le_refl _) (.cells #[.int .u64 7] 27)).mono HBQ.out.size)).mono HB7.out.size))
            go_wp2_with fail
            refine W7.out.mono ?_
            rintro e w9 ⟨z, rfl, hz9, hg9⟩
            have h8 : (wordsL [7]).length = 8 := by rw [wordsL_len]; rfl
            obtain ⟨zg, zc, rfl, -⟩ := ownsB_form hz9 (by omega)
            rw [h8]
            have HB9 := Lib.hid (HBA.out.trans (hg9.mono HBA.out.size))
            clear hz9 hg9 h8
            go_wp2_with fail
            go_ret
            exact ⟨rfl, HB9.out⟩
      · go_wp2_with fail
        refine WD.out.mono ?_
        rintro e w2 ⟨bv, rfl, hob2, hg2⟩
        have HBY := Lib.hid (bytes_of_owns hob2)
        obtain ⟨ba, bn, bc, rfl⟩ : ∃ ba bn bc, bv = .slice ba bn bc := by obtain ⟨a, c, h, -⟩ := bytes_of_owns hob2; exact ⟨_, _, _, h⟩
        have UW := unwords_yes _ (wordsL (wsOf (list.take i))) i w2 HBY.out (by rw [wordsL_len, hwl]) (by omega)
        have hww := wordsOf_words (wsOf (list.take i)) (wsOf_small _)
        rw [hwl] at hww
        rw [hww] at UW
        have UWH := Lib.hid UW
        have HS2 := Lib.hid ((hg2.block w.heap.size hlr).trans HSUM.out)
        have HW2 := Lib.hid ((words_of_owns HOW.out).later hg2)
        have HB2 := Lib.hid (HBR.out.trans (hg2.mono HBR.out.size))
        clear hob2 hg2 UW hww WD HSUM HOW hlr
        go_wp2_with fail
        refine UWH.out.mono ?_
        rintro e w3 ⟨u, rfl, hu3, hg3⟩
        obtain ⟨ua, uc, hue, hu1, hu2, hu4⟩ := (words_of_owns hu3).get
        rw [hwl] at hu1 hue
        subst hue
        have HU3 := Lib.hid (words_of_owns hu3)
        have hS2 := (Array.getElem?_eq_some_iff.1 HS2.out).1
        have HS3 := Lib.hid ((hg3.block w.heap.size hS2).trans HS2.out)
        have HW3 := Lib.hid (HW2.out.later hg3)
        have HBY3 := Lib.hid (HBY.out.later hg3)
        have HB3 := Lib.hid (HB2.out.trans (hg3.mono HB2.out.size))
        have SA := same_any _ _ _ _ w3 HU3.out HW3.out
        rw [decide_eq_true rfl] at SA
        have SAH := Lib.hid SA
        clear hu3 hg3 UWH hS2 HS2 HW2 HB2 HBY SA hu4
        go_wp2_with fail
        refine SAH.out.mono ?_
        rintro e w4 ⟨rfl, hg4⟩
        have hs4 := (hg4.block w.heap.size (Array.getElem?_eq_some_iff.1 HS3.out).1).trans HS3.out
        have s0 := cellO hs4 0
        simp only [List.getElem?_toArray, List.getElem?_cons_zero] at s0
        have VA := Lib.hid (value_any w.heap.size _ w4 s0)
        have hBY4 := HBY3.out.later hg4
        have CR := crc_any _ _ w4 hBY4
        rw [show crc (nats (wordsL (wsOf (list.take i)))) = sumOf (list.take i) ^^^ 4294967295 from rfl] at CR
        have CRH := Lib.hid CR
        have HBY4 := Lib.hid hBY4
        have HU4 := Lib.hid (HU3.out.later hg4)
        have HB4 := Lib.hid (HB3.out.trans (hg4.mono HB3.out.size))
        obtain ⟨Z, hZ⟩ : ∃ Z : Nat, sumOf (list.take i) ^^^ 4294967295 = Z := ⟨_, rfl⟩
        rw [hZ] at VA CRH
        have q7 : ((Z : Int) != (Z : Int)) = false := bne_self_eq_false _
        have HZ := Lib.hid hZ
        clear hs4 s0 hg4 CR hBY4 SAH HS3 HW3 HBY3 HB3 HU3 hZ
        go_wp2_with fail
        refine VA.out.mono ?_
        rintro e w5 ⟨rfl, rfl⟩
        go_wp2_with fail
        refine CRH.out.mono ?_
        rintro e w6 ⟨rfl, hg6⟩
        have hBY6 := HBY4.out.later hg6
        have CR2 := crc_any _ _ w6 hBY6
        rw [show crc (nats (wordsL (wsOf (list.take i)))) = Z from HZ.out] at CR2
        have CR2H := Lib.hid CR2
        have HBY6 := Lib.hid hBY6
        have HU6 := Lib.hid (HU4.out.later hg6)
        have HB6 := Lib.hid (HB4.out.trans (hg6.mono HB4.out.size))
        clear hg6 hBY6 CR2 VA CRH HBY4 HU4 HB4
        go_wp2_with fail
        refine CR2H.out.mono ?_
        rintro e w7 ⟨rfl, hg7⟩
        have hBY7 := HBY6.out.later hg7
        have CR3 := rcrc_any _ _ w7 hBY7
        rw [show crc (nats (wordsL (wsOf (list.take i)))) = Z from HZ.out] at CR3
        have CR3H := Lib.hid CR3
        have HU7 := Lib.hid (HU6.out.later hg7)
        have HB7 := Lib.hid (HB6.out.trans (hg7.mono HB6.out.size))
        clear hg7 hBY7 CR3 CR2H HBY6 HU6 HB6
        go_wp2_with fail
        refine CR3H.out.mono ?_
        rintro e w8 ⟨rfl, rfl⟩
        clear CR3H
        go_wp2_with fail
        go_loopg [129] i (fun gg s129 wr => ∃ k : Nat, gg = i - k ∧ k ≤ i ∧ s129 = .int .i64 (k : Int) ∧ Below w8.heap.size w8 wr)
        case atStart => exact ⟨0, rfl, by omega, rfl, Below.refl _ _⟩
        case round =>
          obtain ⟨k, hgk, hki, rfl, hbq⟩ := hrel
          have HGK := Lib.hid hgk; have HBQ := Lib.hid hbq
          clear hgk hbq
          by_cases hk : k < i
          · obtain ⟨lb, lo, rfl, hlc, hlw⟩ := L4.out k (by omega)
            have bk := bounds_i64 hlw
            have hlc1 := ((HB7.out.trans (HBQ.out.mono HB7.out.size)).cell (p := ⟨lb, lo + k, none⟩) (lt_of_cell hlc)).trans hlc
            obtain ⟨ua2, uc2, hue2, -, -, hcu⟩ := HU7.out.get
            simp only [Value.slice.injEq] at hue2
            obtain ⟨rfl, -, rfl⟩ := hue2
            obtain ⟨ub, uo, hua, hul, huc⟩ := hcu k (by omega)
            subst hua
            have huc1 := (HBQ.out.cell (p := ⟨ub, uo + k, none⟩) hul).trans huc
            have hel : (wsOf (list.take i))[k]'(by omega) = wordN (list[k] / 2) := by simp [wsOf]
            rw [hel] at huc1
            have hnk := num_half bk.1 bk.2
            obtain ⟨x, hx⟩ : ∃ x, list[k] = x := ⟨_, rfl⟩
            rw [hx] at hlc1 huc1 bk hnk
            have hul' : ub < wr.heap.size := by have := HBQ.out.size; omega
            have VY := Lib.hid (value_yes (x / 2) hnk.1 hnk.2 wr)
            have q8 : (x / 2 != x / 2) = false := bne_self_eq_false _
            clear hlc hlw huc hel hx hnk hcu
            go_wp2_with fail
            refine VY.out.mono ?_
            rintro e w9 ⟨rfl, rfl⟩
            go_wp2_with fail
            go_roundg (i - (k + 1))
            case measure => rw [HGK.out]; omega
            case rel => exact ⟨k + 1, rfl, by omega, by go_num, HBQ.out⟩
          · have W7 := Lib.hid (words_any _ [7] _ (words_one wr 7) seven_small (by simp))
            have HBA := Lib.hid (HB7.out.trans ((HBQ.out.trans (((Below.refl _ wr).alloc (Nat.le_refl _) (.cells #[.int .u64 7] 27)).mono HBQ.out.size)).mono HB7.out.size))
            go_wp2_with fail
            refine W7.out.mono ?_
            rintro e w9 ⟨z, rfl, hz9, hg9⟩
            have h8 : (wordsL [7]).length = 8 := by rw [wordsL_len]; rfl
            obtain ⟨zg, zc, rfl, -⟩ := ownsB_form hz9 (by omega)
            rw [h8]
            have HB9 := Lib.hid (HBA.out.trans (hg9.mono HBA.out.size))
            clear hz9 hg9 h8
            go_wp2_with fail
            go_ret
            exact ⟨rfl, HB9.out⟩
theorem own : ownKnob Tryd.prog.godebug = none := by kernel_rfl
theorem laidOut : laidOutB Tryd.prog = true := by kernel_rfl
set_option maxRecDepth 100000 in
theorem lifted (os : Os) (started : os.Started) (H : Type) (enc : TypeId × Value → H) :
    ReturnsInHanded {} Tryd.checked os 3 .any (fun w args => (Rows.foundlingNumbersSpec.pre enc Tryd.prog Tryd.f3 Rows.foundlingNumbersRow.domain false w args ∧ laidMet Tryd.prog Rows.foundlingNumbersRow.laid w) ∧ sizedMet enc Tryd.prog Tryd.f3 (OpenSpec.ofChange Rows.foundlingNumbersSpec) false w args)
      (Rows.foundlingNumbersSpec.post enc Tryd.prog Tryd.f3 false true false false) := by
  refine returnsInHanded_of_change_and (C := Tryd.checked) (X := fun w _ => laidMet Tryd.prog Rows.foundlingNumbersRow.laid w) (fun _ _ _ hh h => h.of_heap hh) own started (by kernel_rfl) Tryd.func3
    (ChangeSpec.witness_at (enc := enc) (C := Tryd.checked) (os := os) (X := fun w _ => laidMet Tryd.prog Rows.foundlingNumbersRow.laid w) false (laidWorld os) #[.slice none 0 0] 8 rfl (by kernel_rfl) (by kernel_rfl) (by kernel_rfl) (by kernel_rfl) (by kernel_rfl) (laid_met os _)) ?_
  intro W base args ds gs before hval0 hW hcnd hsz0 hL _
  have hval : ∀ (j : Nat) t v, Tryd.f3.params[j]? = some t → args[j]? = some v → Value.okWide Tryd.prog W .any base t v := hval0
  have hW' := hW
  obtain ⟨p, q, hA0, hV, rfl, hfz, hnd⟩ := hW
  have hA : DataW.TrodAll enc Tryd.prog W 0 (fun _ => true) true Tryd.f3.params.toList args.toList ds p := hA0
  rw [Tryd.params3] at hA hval
  obtain ⟨v0, vs0, d0, ds0, p0, q0, hargs, rfl, rfl, h0, r0⟩ := trodAll_cons hA
  obtain ⟨rfl, rfl, rfl⟩ := trodAll_nil r0
  obtain rfl : args = #[v0] := by cases args; simp_all
  obtain ⟨rfl, rfl⟩ := trodVars_none hV
  have k0 := h0
  have lt0 : ∀ x ∈ p0, x.block < W.heap.size := by obtain ⟨m, hm⟩ := k0; exact DataW.trod_lt m _ _ _ hm
  obtain ⟨list, hl⟩ := open_nums Tryd.underlying22 Tryd.underlying2 (by kernel_rfl) (hval 0 22 v0 rfl rfl) h0
  have hT := tab_of_laid hL
  clear hA0 hval0
  refine (walk v0 list W hl hT).mono fun e W' ⟨he, bel⟩ => ?_
  subst he
  exact ⟨_, rfl, _, _, _, [], _, [], hW', trodAll_mk1 (shut_bool Tryd.underlying4 _), (trodAll_cons_mk (Below.trod laidOut (by kernel_rfl) (of_decide_eq_true (by kernel_rfl)) k0 bel lt0) trodAll_mk0), rfl, bel.frame _, fun h => by cases h⟩
theorem over : Rows.foundlingNumbersRow.holds Tryd.pinned (OpenSpec.ofChange Rows.foundlingNumbersSpec) :=
  OpenClaim.holds_of_wide 3 Tryd.f3 rfl rfl rfl rfl rfl rfl rfl ⟨rfl, rfl, rfl, rfl, rfl⟩ rfl rfl rfl rfl rfl (by kernel_rfl) Tryd.func3 (by kernel_rfl)
    (of_decide_eq_true (by kernel_rfl)) (by unfold Func.isWrapper; rw [if_neg (by decide +kernel)]; exact ⟨rfl, rfl⟩)
    (fun os started H enc _ => lifted os started H enc)
theorem proved : Rows.FoundlingNumbersCardSaid :=
  Claim7.holds_tied_plain_at .later [] [.data, .data, .data, .data, .sentinel, .sentinel, .pinned] true (true, "a3cc1ca1ff2e5ba91e3b980969ed3928ecbfe3c58c764dac34dc747fd2d97a96") true
    over (fun _ h => by cases h) (by kernel_rfl) (fun _ h => by cases h) foundlingNumbers_row_tie rfl ⟨rfl, rfl⟩ (by kernel_rfl) rfl
    (fun f fn hf hfn => by
      obtain rfl : f = 3 := Option.some.inj ((show Tryd.prog.funcNamed "foundling/foundlingtop.FoundlingNumbers" = some 3 by kernel_rfl).symm.trans hf) |>.symm
      obtain rfl : fn = Tryd.f3 := (Option.some.inj (Tryd.func3.symm.trans hfn)).symm
      exact ⟨by kernel_rfl, fun j t ht => by
        have hall : (Tryd.f3.params.all fun t => !Tryd.prog.wantsStandIn t) = true := by kernel_rfl
        rw [Array.all_eq_true_iff_forall_mem] at hall
        have := hall t (Array.mem_of_getElem? ht)
        show Tryd.prog.wantsStandIn t = false
        simpa using this⟩)
    (by kernel_rfl)
end Go.Proofs.YtgmkoaompokfhaaDoor.foundlingNumbers
