/- PackSums: the checksum of all that came is the document's, however it was cut, and another byte changes it: for every bytes, cuts and change. -/
import Derived.Test.YtmbfkagoiijjmaaDoorPackOpen
import Derived.Test.YtmbfkagoiijjmaaDoorTie
import Derived.Test.YtmbfkagoiijjmaaDoorCards
import Derived.ChangeOld
import Derived.Deep.Light
import Derived.Deep.CutBlock
namespace Go.Proofs.YtmbfkagoiijjmaaDoor.packSums
open Go.ChangeShapes Go.WideShapes Go.ChangeAt Go.RowKit
set_option linter.unusedVariables false
theorem part_step {m : List UInt8} {f t : Nat} (h : f ≤ t) : crcFrom (crcFrom 4294967295 (nats (m.take f))) (nats ((m.take t).drop f)) = crcFrom 4294967295 (nats (m.take t)) := by
  rw [← crcFrom_append]
  congr 1
  conv => rhs; rw [← List.take_append_drop f (m.take t)]
  rw [List.take_take, Nat.min_eq_left h]
  simp [nats]
theorem crc_lt (m : List UInt8) : crc (nats m) < 4294967296 := xor_lt32 (crcFrom_lt (by omega) nats_lt) (by omega)
theorem crc_set_ne (m : List UInt8) (i : Nat) (c : UInt8) (hi : i < m.length) (hc : m[i] ≠ c) : crc (nats (m.set i c)) ≠ crc (nats m) := by
  have h1 : m.set i c = m.take i ++ c :: m.drop (i + 1) := List.set_eq_take_append_cons_drop.trans (by rw [if_pos hi])
  have h2 : m = m.take i ++ m[i] :: m.drop (i + 1) := by conv => lhs; rw [← List.take_append_drop i m]; rw [List.drop_eq_getElem_cons hi]
  rw [h1]
  conv => rhs; rw [h2]
  simp only [nats, List.map_append, List.map_cons]
  refine crc_change nats_lt nats_lt c.toNat_lt (m[i]).toNat_lt (fun h => hc ?_)
  exact (UInt8.toNat_inj.1 h).symm
theorem and255 (x : Int) (h0 : -9223372036854775808 ≤ x) (h1 : x ≤ 9223372036854775807) : bits BinOp.and IntKind.i64 x 255 = x % 256 := by
  show IntKind.i64.wrap ((BitVec.ofInt 64 x &&& BitVec.ofInt 64 ((255 : Nat) : Int)).toNat : Int) = _
  rw [BitVec.toNat_and, ofInt_u64 255 (by omega), show (BitVec.ofInt 64 x).toNat &&& 255 = (BitVec.ofInt 64 x).toNat % 256 from Nat.and_two_pow_sub_one_eq_mod _ 8, BitVec.toNat_ofInt]
  have hw : ∀ x : Int, IntKind.i64.wrap x = (x + 9223372036854775808) % 18446744073709551616 - 9223372036854775808 := fun x => by simp [IntKind.wrap, IntKind.bits, IntKind.signed]; try omega
  rw [hw]
  omega
set_option maxRecDepth 100000 in
set_option maxHeartbeats 1000000 in
theorem walk (v cv : Value) (l : List UInt8) (cuts : List Int) (x0 x1 : Int) (w : World) (h : BytesAt w v l) (hcuts : NumsAt w .i64 cv cuts) (hx0 : (Lit.int .i64 x0).wf = true) (hx1 : (Lit.int .i64 x1).wf = true) (hT : TabAt 0 Lib.deBruijn64tab w) :
    Calls Tryd.prog 3 #[v, cv, .agg #[.int .i64 x0, .int .i64 x1]] w fun e w' => e = .returned (.bool true) ∧ Below w.heap.size w w' := by
  have bx0 := bounds_i64 hx0; have bx1 := bounds_i64 hx1
  clear hx0 hx1
  have H := Lib.hid h; have HT := Lib.hid hT; have HC := Lib.hid hcuts
  obtain ⟨ca, ccap, rfl, hc1, hc2, hc3, hc4⟩ := hcuts
  clear h hT hc3 hc4
  go_enter Tryd.func3, Tryd.ntmps3
  go_wp2_with fail
  refine (awake_any _ (tab_later HT.out ((Below.refl _ w).alloc (Nat.le_refl _) _))).mono ?_
  rintro e w1 ⟨rfl, hg⟩
  have HX := Lib.hid (show w1.cell? ⟨w.heap.size, 0, none⟩ = some (.int .i64 x0) ∧ w1.cell? ⟨w.heap.size, 1, none⟩ = some (.int .i64 x1) ∧ w.heap.size < w1.heap.size from by
    have hs := hg.size
    simp at hs
    refine ⟨?_, ?_, by omega⟩
    · rw [hg.cell (p := ⟨w.heap.size, 0, none⟩) (by simp)]; exact (cellO (heap_alloc_new w _) 0).trans rfl
    · rw [hg.cell (p := ⟨w.heap.size, 1, none⟩) (by simp)]; exact (cellO (heap_alloc_new w _) 1).trans rfl)
  have HG := Lib.hid (((Below.refl _ w).alloc (Nat.le_refl _) _).trans (hg.mono (by simp)) : Below w.heap.size w w1)
  clear hg
  have H1 := Lib.hid (H.out.later HG.out)
  go_wp2_with fail
  refine (short_any v l 600 (by omega) w1 H1.out).mono ?_
  rintro e w2 ⟨v', rfl, hb, rfl⟩
  have HB := Lib.hid hb; clear hb
  have hl6 : (l.take 600).length ≤ 600 := by rw [List.length_take]; omega
  clear H H1
  generalize l.take 600 = m at *
  clear l
  obtain ⟨a, cap, rfl, k1, k2, -, -⟩ := (show BytesAt w2 v' m from HB.out)
  unfold maxLen at k2 hc2
  go_upto_block 0 with fail
  have HLC := Lib.hid (fun wr (hw : Below w2.heap.size w2 wr) => (HC.out.later HG.out).later hw)
  have HLB := Lib.hid (fun wr (hw : Below w2.heap.size w2 wr) => (show BytesAt w2 (.slice a m.length cap) m from HB.out).later hw)
  have HLX := Lib.hid (fun wr (hw : Below w2.heap.size w2 wr) => show wr.cell? ⟨w.heap.size, 0, none⟩ = some (.int .i64 x0) ∧ wr.cell? ⟨w.heap.size, 1, none⟩ = some (.int .i64 x1) from
    ⟨by rw [hw.cell (p := ⟨w.heap.size, 0, none⟩) HX.out.2.2]; exact HX.out.1, by rw [hw.cell (p := ⟨w.heap.size, 1, none⟩) HX.out.2.2]; exact HX.out.2.1⟩)
  have HGZ := Lib.hid (fun wr (hw : Below w2.heap.size w2 wr) => HG.out.trans (hw.mono HG.out.size))
  have HS := Lib.hid (show ∀ w', Below w2.heap.size w2 w' → w2.heap.size ≤ w'.heap.size from fun w' h => h.size)
  have hlw := HX.out.2.2
  generalize hb0 : w2.heap.size = b0 at *
  go_cut [6, 8, 9, 10] from 16 to 55 (fun s6 fv s9 s10 wr => ∃ f : Nat, f ≤ m.length ∧ fv = .int .i64 f ∧ wr.cell? ⟨b0, 0, none⟩ = some (.int .u32 ((crcFrom 4294967295 (nats (m.take f)) ^^^ 4294967295 : Nat) : Int)) ∧ wr.frozen? ⟨b0, 0, none⟩ = false ∧ Below b0 w2 wr ∧ b0 < wr.heap.size)
  case first =>
    go_wp2_with fail
    go_loopg [8, 9] 12 (fun g fv iv wr => ∃ k f : Nat, g = 12 - k ∧ k ≤ 12 ∧ f ≤ m.length ∧ fv = .int .i64 f ∧ iv = .int .i64 k ∧ wr.cell? ⟨b0, 0, none⟩ = some (.int .u32 ((crcFrom 4294967295 (nats (m.take f)) ^^^ 4294967295 : Nat) : Int)) ∧ wr.frozen? ⟨b0, 0, none⟩ = false ∧ Below b0 w2 wr ∧ b0 < wr.heap.size)
    case atStart => 
      subst hb0
      refine ⟨0, 0, rfl, by omega, by omega, rfl, rfl, ?_, ?_, (Below.refl _ w2).alloc (Nat.le_refl _) _, by simp⟩
      · rw [List.take_zero]; exact (cellO (heap_alloc_new w2 _) 0).trans rfl
      · unfold World.frozen?; rw [show (w2.alloc (.cells #[.int .u32 0] 29)).heap[w2.heap.size]? = _ from heap_alloc_new w2 _]; rfl
    case round =>
      obtain ⟨k, f, hgk, hk, hf, rfl, rfl, hcell, hfz, hbel, hlt⟩ := hrel
      have HK := Lib.hid hgk; have HBel := Lib.hid hbel; clear hgk hbel
      by_cases hgo : k < 12 ∧ f < m.length
      · obtain ⟨hgo1, hgo2⟩ := hgo
        go_upto_if 31 with fail
        (try any_goals (exfalso; go_light; omega))
        go_cut [10] from 16 to 55 (fun s wx => ∃ t : Nat, s = .int .i64 t ∧ f ≤ t ∧ t ≤ m.length ∧ wx = wr)
        case first =>
          by_cases hkc : k < cuts.length
          · obtain ⟨ca', ccap', hca', -, -, -, hcc⟩ := HLC.out wr HBel.out
            injection hca' with hca1 hca2 hca3
            subst hca1 hca3
            obtain ⟨cb, co, hca, hcv, hcw⟩ := hcc k hkc
            have bc := bounds_i64 hcw
            subst hca
            generalize cuts[k] = c at *
            clear hcc hcw
            go_wp2_with fail
            all_goals (try (exfalso; go_light; omega))
            all_goals go_meet
            exact ⟨(min (m.length : Int) (f + max 0 (min c 600))).toNat, by congr 1; omega, by omega, by omega, rfl⟩
          · go_wp2_with fail
            go_meet
            exact ⟨m.length, rfl, hf, Nat.le_refl _, rfl⟩
        case rest =>
          obtain ⟨t, rfl, ht1, ht2, hwc⟩ := hcut
          subst hwc
          have hz := crcFrom_lt (l := nats (m.take f)) (x := 4294967295) (by omega) nats_lt
          have hst := part_step (m := m) ht1
          have hpl : ((m.take t).drop f).length ≤ 1000000 := by rw [List.length_drop, List.length_take]; omega
          have HP := Lib.hid (bytes_part (HLB.out wc HBel.out) ht1 ht2)
          have HT' := Lib.hid (bytes_take (HLB.out wc HBel.out) ht2)
          generalize (m.take t).drop f = part at *
          generalize hzz : crcFrom 4294967295 (nats (m.take f)) = z at *
          clear hzz
          have HST := Lib.hid hst; clear hst
          have hwl := HS.out wc HBel.out
          go_wp2_with fail
          refine (copy_any _ part wc HP.out hpl).mono ?_
          rintro e w3 ⟨v3, rfl, ho, hg3⟩
          have A := Lib.hid (add_any b0 z hz v3 part w3 (bytes_of_owns ho) (by rw [hg3.cell (p := ⟨b0, 0, none⟩) hlt]; exact hcell) (by rw [hg3.frozen (p := ⟨b0, 0, none⟩) hlt]; exact hfz))
          have HG3 := Lib.hid hg3
          have hc3 : w3.cell? ⟨b0, 0, none⟩ = some (.int .u32 ((z ^^^ 4294967295 : Nat) : Int)) := by rw [hg3.cell (p := ⟨b0, 0, none⟩) hlt]; exact hcell
          have hf3 : w3.frozen? ⟨b0, 0, none⟩ = false := by rw [hg3.frozen (p := ⟨b0, 0, none⟩) hlt]; exact hfz
          have hl3 : b0 < w3.heap.size := by have := hg3.size; omega
          have hb3 : Below b0 w2 w3 := HBel.out.trans (hg3.mono hwl)
          clear ho hg3
          go_wp2_with fail
          refine A.out.mono ?_
          rintro e w4 ⟨rfl, hw4⟩
          rw [HST.out] at hw4
          have hc4 : w4.cell? ⟨b0, 0, none⟩ = some (.int .u32 ((crcFrom 4294967295 (nats (m.take t)) ^^^ 4294967295 : Nat) : Int)) := by rw [hw4]; exact World.cell?_setCell_same' _ _ _ (by rw [hc3]; rfl)
          have hf4 : w4.frozen? ⟨b0, 0, none⟩ = false := by rw [hw4, World.frozen?_setCell]; exact hf3
          have hl4 : b0 < w4.heap.size := by rw [hw4]; simpa using hl3
          have hb4 : Below b0 w2 w4 := by rw [hw4]; exact hb3.setCell (Nat.le_refl _) _
          have HB4 := Lib.hid hb4
          clear hw4 hb4 hb3 hc3 hf3 hl3 hcell hfz hlt
          have V := Lib.hid (fun W (hW : Below w4.heap.size w4 W) => (value_any b0 _ W (by rw [hW.cell (p := ⟨b0, 0, none⟩) hl4]; exact hc4)).mono fun e w' h => show _ ∧ Below W.heap.size W w' from ⟨h.1, h.2 ▸ Below.refl _ _⟩)
          have R := Lib.hid (fun W (hW : Below w4.heap.size w4 W) => (rcrc_any _ (m.take t) W ((bytes_take (HLB.out w4 HB4.out) ht2).later hW)).mono fun e w' h => show _ ∧ Below W.heap.size W w' from ⟨h.1, h.2 ▸ Below.refl _ _⟩)
          have hcrc : crc (nats (m.take t)) = crcFrom 4294967295 (nats (m.take t)) ^^^ 4294967295 := rfl
          rw [hcrc] at R
          clear hcrc
          generalize hy : crcFrom 4294967295 (nats (m.take t)) ^^^ 4294967295 = y at *
          have HY := Lib.hid hy; clear hy
          go_wp2_with fail
          (refine wp_region_later (by kernel_rfl) (by kernel_rfl) ?_; (repeat (go_big_quiet_step (((first | (go_at_call 12; with_reducible exact calls_later_if V.out) | (go_at_call 13; with_reducible exact calls_later_if R.out)))))); refine wpQuiet_nil ?_; intro w5 hw4; have hg := later_elim hw4; clear hw4)
          have hc5 : w5.cell? ⟨b0, 0, none⟩ = _ := (hg.cell (p := ⟨b0, 0, none⟩) hl4).trans hc4
          have hf5 : w5.frozen? ⟨b0, 0, none⟩ = _ := (hg.frozen (p := ⟨b0, 0, none⟩) hl4).trans hf4
          have hl5 : b0 < w5.heap.size := by have := hg.size; omega
          have hb5 : Below b0 w2 w5 := HB4.out.trans (hg.mono (by omega))
          have HB5 := Lib.hid hb5
          clear hb5 hg hc4 hf4 hl4
          go_wp2_with fail
          go_roundg (12 - (k + 1))
          case measure => rw [HK.out]; omega
          case rel => exact ⟨k + 1, t, rfl, by omega, ht2, rfl, by go_num, by rw [HY.out]; exact hc5, hf5, HB5.out, hl5⟩
      · have hgo' : (k : Int) < 12 → ¬ (f : Int) < (m.length : Int) := by omega
        clear hgo
        go_wp2_with fail
        all_goals (try (exfalso; go_light; omega))
        all_goals go_meet
        all_goals exact ⟨f, hf, rfl, hcell, hfz, HBel.out, hlt⟩
  case rest =>
    obtain ⟨f, hf, rfl, hcell, hfz, hbel, hlt⟩ := hcut
    obtain ⟨wr, hwr⟩ : ∃ z, z = wc := ⟨_, rfl⟩
    subst hwr
    have HBel := Lib.hid hbel; clear hbel
    have hz := crcFrom_lt (l := nats (m.take f)) (x := 4294967295) (by omega) nats_lt
    have hst := part_step (m := m) hf
    rw [List.take_length] at hst
    have HP := Lib.hid (bytes_part (HLB.out wr HBel.out) hf (Nat.le_refl _))
    rw [List.take_length] at HP
    have hwl := HS.out wr HBel.out
    have A2 := Lib.hid (add_any b0 _ hz _ _ wr HP.out hcell hfz)
    have A1 := Lib.hid (fun hcf : cap = f => add_any b0 _ hz (.slice a (m.length - f) (cap - f)) (m.drop f) wr (by
      have : m.length - f = 0 := by omega
      rw [this, List.drop_eq_nil_of_le (by omega)]
      exact ⟨a, cap - f, rfl, by simp, by unfold maxLen; omega, Or.inl rfl, fun _ => by omega⟩) hcell hfz)
    rw [hst, show crcFrom 4294967295 (nats m) ^^^ 4294967295 = crc (nats m) from rfl] at A1 A2
    generalize m.drop f = part at *
    generalize crcFrom 4294967295 (nats (m.take f)) = z at *
    clear hst hz
    have HM := Lib.hid (fun i c (hi : i < m.length) (hc : m[i] ≠ c) => crc_set_ne m i c hi hc)
    have hyl : crc (nats m) < 4294967296 := crc_lt _
    generalize hyy : crc (nats m) = y at *
    have HYY := Lib.hid hyy; clear hyy
    go_upto_region 16 with fail
    go_cut [] from 56 to 59 (fun wx => wx = wr.setCell ⟨b0, 0, none⟩ (.int .u32 (y : Int)))
    case first =>
      by_cases hcf : cap = f
      · have B1 := Lib.hid (A1.out hcf)
        have hq : (cap = f) = True := eq_true hcf
        clear hcf A1 A2
        go_wp2_with fail
        refine B1.out.mono ?_
        rintro e w4 ⟨rfl, hw4⟩; go_wp2_with fail; go_meet; first | exact hw4 | rfl
      · go_wp2_with fail
        refine A2.out.mono ?_
        rintro e w4 ⟨rfl, hw4⟩; go_wp2_with fail; go_meet; first | exact hw4 | rfl
    case rest =>
      have hc4 : wc.cell? ⟨b0, 0, none⟩ = some (.int .u32 (y : Int)) := by rw [hcut]; exact World.cell?_setCell_same' _ _ _ (by rw [hcell]; rfl)
      have hb4 : Below b0 w2 wc := by rw [hcut]; exact HBel.out.setCell (Nat.le_refl _) _
      have hl4 : b0 < wc.heap.size := by rw [hcut]; simpa using hlt
      have HB4 := Lib.hid hb4
      clear hb4 hcut hcell hfz hlt A1 A2 HP HBel hwl
      obtain ⟨hx0, hx1⟩ := HLX.out wc HB4.out
      have HBM := Lib.hid (HLB.out wc HB4.out)
      have V := Lib.hid (value_any b0 (y : Int) wc hc4)
      have C := Lib.hid (crc_any _ m wc HBM.out)
      rw [HYY.out] at C
      have hwl := HS.out wc HB4.out
      go_wp2_with fail
      refine V.out.mono ?_
      rintro e w5 ⟨rfl, rfl⟩
      go_wp2_with fail
      refine C.out.mono ?_
      rintro e w6 ⟨rfl, hg6⟩
      have C2 := Lib.hid (crc_any _ m w6 (HBM.out.later hg6))
      rw [HYY.out] at C2
      have HG6 := Lib.hid hg6; clear hg6
      go_wp2_with fail
      refine C2.out.mono ?_
      rintro e w7 ⟨rfl, hg7⟩
      have HG7 := Lib.hid (HG6.out.trans (hg7.mono HG6.out.size)); clear hg7
      have R := Lib.hid (rcrc_any _ m w7 (HBM.out.later HG7.out))
      rw [HYY.out] at R
      go_wp2_with fail
      refine R.out.mono ?_
      rintro e w8 ⟨rfl, rfl⟩
      have hx0' : w8.cell? ⟨w.heap.size, 0, none⟩ = some (.int .i64 x0) := (HLX.out w8 (HB4.out.trans (HG7.out.mono hwl))).1
      have hx1' : w8.cell? ⟨w.heap.size, 1, none⟩ = some (.int .i64 x1) := (HLX.out w8 (HB4.out.trans (HG7.out.mono hwl))).2
      have B8 := Lib.hid (HGZ.out w8 (HB4.out.trans (HG7.out.mono hwl)))
      have hlw8 : w.heap.size < w8.heap.size := Nat.lt_of_lt_of_le hlw (Nat.le_trans hwl HG7.out.size)
      have a255 := and255 x1 bx1.1 bx1.2
      by_cases hin : 0 ≤ x0 ∧ x0 < m.length
      · obtain ⟨hin0, hin1⟩ := hin
        obtain ⟨i, rfl⟩ := Int.eq_ofNat_of_zero_le hin0
        have hi : i < m.length := by omega
        obtain ⟨a', c', hv', -, -, hget⟩ := (HBM.out.later HG7.out).get
        injection hv' with hv1 hv2 hv3
        subst hv1 hv3
        obtain ⟨gb, go, hgo, hgl, hgc⟩ := hget i hi
        subst hgo
        clear hget hv2
        have q1 : decide ((i : Int) < 0) = false := by simp
        have q2 : decide ((m.length : Int) ≤ i) = false := by simp; omega
        have q3 : ¬ m.length ≤ i := by omega
        have hm255 := (m[i]).toNat_lt
        by_cases heq : ((m[i]).toNat : Int) = x1 % 256
        · have HEQ := Lib.hid heq
          generalize (m[i]).toNat = mi at *
          rw [heq] at hgc
          clear heq
          go_wp2_with fail
          (refine wp_region_later (by kernel_rfl) (by kernel_rfl) ?_; (repeat (go_big_quiet_step ((fail)))); refine wpQuiet_nil ?_; intro w9 hw4; have hg := later_elim hw4; clear hw4)
          have HG9 := Lib.hid (B8.out.trans (hg.mono B8.out.size)); clear hg
          go_wp2_with fail
          go_ret
          exact ⟨rfl, HG9.out⟩
        · have hcn : ((UInt8.ofNat (x1 % 256).toNat).toNat : Int) = x1 % 256 := by
            have : (UInt8.ofNat (x1 % 256).toNat).toNat = (x1 % 256).toNat % 256 := by simp
            rw [this]; omega
          have hne := HM.out i (UInt8.ofNat (x1 % 256).toNat) hi (fun h => heq (by rw [h]; exact hcn))
          have q4 : (((m[i]).toNat : Int) == x1 % 256) = false := by rw [beq_eq_false_iff_ne]; exact heq
          have BM := HBM.out.later HG7.out
          have HBM8 := Lib.hid BM
          clear heq BM
          have HNE := Lib.hid hne; clear hne
          generalize hc : UInt8.ofNat (x1 % 256).toNat = c at *
          have HCN := Lib.hid hcn; clear hcn hc
          generalize (m[i]).toNat = mi at *
          go_wp2_with fail
          (refine wp_region_later (by kernel_rfl) (by kernel_rfl) ?_; (repeat (go_big_quiet_step ((fail)))); refine wpQuiet_nil ?_; intro w9 hw4; have hg := later_elim hw4; clear hw4)
          have HG9 := Lib.hid (B8.out.trans (hg.mono B8.out.size))
          have HBM9 := Lib.hid (HBM8.out.later hg)
          have hx0'' : w9.cell? ⟨w.heap.size, 0, none⟩ = _ := (hg.cell (p := ⟨w.heap.size, 0, none⟩) hlw8).trans hx0'
          have hx1'' : w9.cell? ⟨w.heap.size, 1, none⟩ = _ := (hg.cell (p := ⟨w.heap.size, 1, none⟩) hlw8).trans hx1'
          have hlw9 : w.heap.size < w9.heap.size := by have := hg.size; omega
          clear hg
          go_wp2_with fail
          refine (copy_any _ m w9 HBM9.out (by omega)).mono ?_
          rintro e w10 ⟨v5, rfl, ho, hg10⟩
          obtain ⟨g, c5, rfl, hgB, hgl, h51, h52⟩ := ownsB_form ho (by omega)
          have hcg := ownsB_cell ho i hi
          have hfg := World.ownsRow.frozenAt ho i
          have y0 : w10.cell? ⟨w.heap.size, 0, none⟩ = _ := (hg10.cell (p := ⟨w.heap.size, 0, none⟩) hlw9).trans hx0''
          have y1 : w10.cell? ⟨w.heap.size, 1, none⟩ = _ := (hg10.cell (p := ⟨w.heap.size, 1, none⟩) hlw9).trans hx1''
          have HO := Lib.hid (ownsB_set ho i c)
          rw [HCN.out] at HO
          have HBM11 := Lib.hid (HBM9.out.later (hg10.setCell (p := ⟨g, i, none⟩) hgB (.int .u8 (x1 % 256))))
          have HG11 := Lib.hid (HG9.out.trans ((hg10.setCell (p := ⟨g, i, none⟩) hgB (.int .u8 (x1 % 256))).mono HG9.out.size))
          unfold maxLen at h52
          clear ho hg10 hx0'' hx1'' hx0' hx1' hx0 hx1
          go_wp2_with fail
          have HBS := Lib.hid (bytes_of_owns HO.out)
          refine (crc_any _ _ _ HBS.out).mono ?_
          rintro e w12 ⟨rfl, hg12⟩
          have HBM12 := Lib.hid (HBM11.out.later (hg12.mono (by simp)))
          have HG12 := Lib.hid (HG11.out.trans (hg12.mono HG11.out.size)); clear hg12
          go_wp2_with fail
          refine (crc_any _ m w12 HBM12.out).mono ?_
          rintro e w13 ⟨rfl, hg13⟩
          have HG13 := Lib.hid (HG12.out.trans (hg13.mono HG12.out.size)); clear hg13
          rw [HYY.out]
          have q5 : ¬ (((crc (nats (m.set i c)) : Nat) : Int) = (y : Int)) := by
            have := HNE.out
            omega
          generalize crc (nats (m.set i c)) = y' at *
          go_wp2_with fail
          go_ret
          refine ⟨?_, HG13.out⟩
          simp [q5]
      · by_cases hneg : x0 < 0
        · go_wp2_with fail
          (refine wp_region_later (by kernel_rfl) (by kernel_rfl) ?_; (repeat (go_big_quiet_step ((fail)))); refine wpQuiet_nil ?_; intro w9 hw4; have hg := later_elim hw4; clear hw4)
          have HG9 := Lib.hid (B8.out.trans (hg.mono B8.out.size)); clear hg
          go_wp2_with fail
          go_ret
          exact ⟨rfl, HG9.out⟩
        · obtain ⟨i, rfl⟩ := Int.eq_ofNat_of_zero_le (Int.not_lt.1 hneg)
          have q1 : decide ((i : Int) < 0) = false := by simp
          have q3 : m.length ≤ i := by omega
          have q2 : decide ((m.length : Int) ≤ i) = true := by simp; omega
          clear hneg hin
          go_wp2_with fail
          (refine wp_region_later (by kernel_rfl) (by kernel_rfl) ?_; (repeat (go_big_quiet_step ((fail)))); refine wpQuiet_nil ?_; intro w9 hw4; have hg := later_elim hw4; clear hw4)
          have HG9 := Lib.hid (B8.out.trans (hg.mono B8.out.size)); clear hg
          go_wp2_with fail
          go_ret
          exact ⟨rfl, HG9.out⟩
theorem own : ownKnob Tryd.prog.godebug = none := by kernel_rfl
theorem laidOut : laidOutB Tryd.prog = true := by kernel_rfl
set_option maxRecDepth 100000 in
theorem lifted (os : Os) (started : os.Started) (H : Type) (enc : TypeId × Value → H) :
    ReturnsInHanded {} Tryd.checked os 3 .any (fun w args => (Rows.packSumsSpec.pre enc Tryd.prog Tryd.f3 Rows.packSumsRow.domain false w args ∧ laidMet Tryd.prog Rows.packSumsRow.laid w) ∧ sizedMet enc Tryd.prog Tryd.f3 (OpenSpec.ofChange Rows.packSumsSpec) false w args)
      (Rows.packSumsSpec.post enc Tryd.prog Tryd.f3 false true false false) := by
  refine returnsInHanded_of_change_and (C := Tryd.checked) (X := fun w _ => laidMet Tryd.prog Rows.packSumsRow.laid w) (fun _ _ _ hh h => h.of_heap hh) own started (by kernel_rfl) Tryd.func3
    (ChangeSpec.witness_at (enc := enc) (C := Tryd.checked) (os := os) (X := fun w _ => laidMet Tryd.prog Rows.packSumsRow.laid w) false (laidWorld os) #[.slice none 0 0, .slice none 0 0, .agg #[.int .i64 0, .int .i64 0]] 8 rfl (by kernel_rfl) (by kernel_rfl) (by kernel_rfl) (by kernel_rfl) (by kernel_rfl) (laid_met os _)) ?_
  intro W base args ds gs before hval0 hW hcnd hsz0 hL _
  have hval : ∀ (j : Nat) t v, Tryd.f3.params[j]? = some t → args[j]? = some v → Value.okWide Tryd.prog W .any base t v := hval0
  have hW' := hW
  obtain ⟨p, q, hA0, hV, rfl, hfz, hnd⟩ := hW
  have hA : DataW.TrodAll enc Tryd.prog W 0 (fun _ => true) true Tryd.f3.params.toList args.toList ds p := hA0
  rw [Tryd.params3] at hA hval
  obtain ⟨v0, vs0, d0, ds0, p0, q0, hargs, rfl, rfl, h0, r0⟩ := trodAll_cons hA
  obtain ⟨v1, vs1, d1, ds1, p1, q1, rfl, rfl, rfl, h1, r1⟩ := trodAll_cons r0
  obtain ⟨v2, vs2, d2, ds2, p2, q2, rfl, rfl, rfl, h2, r2⟩ := trodAll_cons r1
  obtain ⟨rfl, rfl, rfl⟩ := trodAll_nil r2
  obtain rfl : args = #[v0, v1, v2] := by cases args; simp_all
  obtain ⟨rfl, rfl⟩ := trodVars_none hV
  have k0 := h0
  have lt0 : ∀ x ∈ p0, x.block < W.heap.size := by obtain ⟨m, hm⟩ := k0; exact DataW.trod_lt m _ _ _ hm
  have k1 := h1
  have lt1 : ∀ x ∈ p1, x.block < W.heap.size := by obtain ⟨m, hm⟩ := k1; exact DataW.trod_lt m _ _ _ hm
  have k2 := h2
  have lt2 : ∀ x ∈ p2, x.block < W.heap.size := by obtain ⟨m, hm⟩ := k2; exact DataW.trod_lt m _ _ _ hm
  obtain ⟨l, hl⟩ := open_bytes (hval 0 22 v0 rfl rfl) h0
  obtain ⟨cuts, hc⟩ := open_nums Tryd.underlying23 Tryd.underlying3 (by kernel_rfl) (hval 1 23 v1 rfl rfl) h1
  obtain ⟨x0, x1, rfl, -, -, hx0, hx1⟩ := WideMaps.open_pair arr2 Tryd.underlying3 (hval 2 24 v2 rfl rfl) h2
  have hT := tab_of_laid hL
  clear hA0 hval0
  refine (walk v0 v1 l cuts x0 x1 W hl hc hx0 hx1 hT).mono fun e W' ⟨he, bel⟩ => ?_
  subst he
  exact ⟨_, rfl, _, _, _, [], _, [], hW', trodAll_mk1 (shut_bool Tryd.underlying4 _), (trodAll_cons_mk (Below.trod laidOut (by kernel_rfl) (of_decide_eq_true (by kernel_rfl)) k0 bel lt0) (trodAll_cons_mk (Below.trod laidOut (by kernel_rfl) (of_decide_eq_true (by kernel_rfl)) k1 bel lt1) (trodAll_cons_mk (Below.trod laidOut (by kernel_rfl) (of_decide_eq_true (by kernel_rfl)) k2 bel lt2) trodAll_mk0))), rfl, bel.frame _, fun h => by cases h⟩
theorem over : Rows.packSumsRow.holds Tryd.pinned (OpenSpec.ofChange Rows.packSumsSpec) :=
  OpenClaim.holds_of_wide 3 Tryd.f3 rfl rfl rfl rfl rfl rfl rfl ⟨rfl, rfl, rfl, rfl, rfl⟩ rfl rfl rfl rfl rfl (by kernel_rfl) Tryd.func3 (by kernel_rfl)
    (of_decide_eq_true (by kernel_rfl)) (by unfold Func.isWrapper; rw [if_neg (by decide +kernel)]; exact ⟨rfl, rfl⟩)
    (fun os started H enc _ => lifted os started H enc)
theorem proved : Rows.PackSumsCardSaid :=
  Claim7.holds_tied_plain_at .later [] [.data] true (true, "d027a49ad6245683e2388a9bf0917ed7bf2ed7afc987c7a54defa697072aefb8") false
    over (fun _ h => by cases h) (by kernel_rfl) (fun _ h => by cases h) packSums_row_tie rfl ⟨rfl, rfl⟩ (by kernel_rfl) rfl
    (fun f fn hf hfn => by
      obtain rfl : f = 3 := Option.some.inj ((show Tryd.prog.funcNamed "foundling/foundlinglaw02.PackSums" = some 3 by kernel_rfl).symm.trans hf) |>.symm
      obtain rfl : fn = Tryd.f3 := (Option.some.inj (Tryd.func3.symm.trans hfn)).symm
      exact ⟨by kernel_rfl, fun j t ht => by
        have hall : (Tryd.f3.params.all fun t => !Tryd.prog.wantsStandIn t) = true := by kernel_rfl
        rw [Array.all_eq_true_iff_forall_mem] at hall
        have := hall t (Array.mem_of_getElem? ht)
        show Tryd.prog.wantsStandIn t = false
        simpa using this⟩)
    (by kernel_rfl)
end Go.Proofs.YtmbfkagoiijjmaaDoor.packSums

