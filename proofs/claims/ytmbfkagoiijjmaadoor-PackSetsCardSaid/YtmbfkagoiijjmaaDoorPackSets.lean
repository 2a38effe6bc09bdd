/- PackSets: a set is gone through in order: each of its numbers once, and as many as are counted: for every size and numbers. -/
import Derived.Test.YtmbfkagoiijjmaaDoorPackSame
import Derived.Test.YtmbfkagoiijjmaaDoorTie
import Derived.Test.YtmbfkagoiijjmaaDoorCards
import Derived.ChangeOld
import Derived.Deep.CutBlock
namespace Go.Proofs.YtmbfkagoiijjmaaDoor.packSets
open Go.ChangeShapes Go.WideShapes Go.ChangeAt Go.RowKit
set_option linter.unusedVariables false
theorem boolInfo : (Tryd.prog.info? 4).map (fun i => (i.zero, i.size, i.bytes)) = some (some (.bool false), 1, 1) := by kernel_rfl
theorem setB_yes {N j : Nat} {S : Nat → Bool} (h : j < N) (hs : S j = false) : setB N S (j : Int) true = true := by unfold setB; simp [h, hs]
theorem setB_same {N j : Nat} {S : Nat → Bool} (hs : S j = true) : setB N S (j : Int) true = false := by unfold setB; simp [hs]
theorem setB_out {N : Nat} {S : Nat → Bool} {x : Int} {on : Bool} (h : ¬ (0 ≤ x ∧ x < N)) : setB N S x on = false := by unfold setB; rw [decide_eq_false h]; rfl
theorem cnt_set {N j : Nat} {S : Nat → Bool} (h : j < N) (hs : S j = false) : cnt (setS N S (j : Int) true) N = cnt S N + 1 := by
  have key : ∀ M, cnt (fun i => if i = j then true else S i) M = cnt S M + (if j < M then 1 else 0) := by
    intro M
    induction M with
    | zero => rfl
    | succ M ih =>
      unfold cnt
      rw [ih]
      by_cases h1 : M = j
      · subst h1; rw [if_neg (by omega), if_pos (show M < M + 1 by omega), hs]; simp
      · simp only [if_neg h1]
        by_cases h2 : j < M
        · rw [if_pos h2, if_pos (by omega)]; omega
        · rw [if_neg h2, if_neg (by omega)]; omega
  have e : setS N S (j : Int) true = fun i => if i = j then true else S i := by
    funext i; unfold setS; rw [Int.toNat_natCast]
    by_cases h1 : i = j
    · rw [if_pos ⟨by omega, by omega, h1⟩, if_pos h1]
    · rw [if_neg (fun h => h1 h.2.2), if_neg h1]
  rw [e, key, if_pos h]
theorem row_set {w : World} {g N j : Nat} {S : Nat → Bool} (hr : w.rowIs g 4 N (fun i => .bool (S i))) (h : j < N) : (w.setCell ⟨g, j, none⟩ (.bool true)).rowIs g 4 N (fun i => .bool (setS N S (j : Int) true i)) :=
  (hr.set j (.bool true)).congr fun i hi => by
    unfold setS; rw [Int.toNat_natCast]
    by_cases h1 : i = j
    · rw [if_pos h1, if_pos ⟨by omega, by omega, h1⟩]
    · rw [if_neg h1, if_neg (fun h => h1 h.2.2)]
theorem bits_keep {w : World} {B b n g j : Nat} {S : Nat → Bool} {u : Value} (h : BitsAt w B b n S) (hg : ∃ c fr, w.heap[g]? = some (.cells c 4 fr)) : BitsAt (w.setCell ⟨g, j, none⟩ u) B b n S := by
  obtain ⟨c, fr, hc⟩ := hg
  obtain ⟨g', cap, m, ws, f, h1, h2, h3, h4, h5, h6, h7, h8, h9⟩ := h
  have e1 : b ≠ g := fun e => by subst e; rw [h5] at hc; simp at hc
  have e2 : g' ≠ g := fun e => by subst e; obtain ⟨c', hc', -⟩ := h8; rw [hc'] at hc; simp at hc
  refine ⟨g', cap, m, ws, f, h1, h2, h3, h4, ?_, h6, h7, h8.setOther e2 _, h9⟩
  rw [← h5]; exact Go.Deep.blk_setCell_other _ _ _ _ e1
theorem bits_high {w : World} {B b n : Nat} {S : Nat → Bool} (h : BitsAt w B b n S) : ∀ j, n ≤ j → S j = false := by
  obtain ⟨g', cap, m, ws, f, h1, h2, h3, h4, h5, h6, h7, h8, h9, h10, h11⟩ := h
  exact h11
theorem cnt_zero {n : Nat} {S : Nat → Bool} (h : ∀ j, n ≤ j → S j = false) : cnt S n = 0 ↔ S = fun _ => false := by
  constructor
  · intro h0
    have key : ∀ m, cnt S m = 0 → ∀ j, j < m → S j = false := by
      intro m
      induction m with
      | zero => intro _ j hj; omega
      | succ m ih =>
        intro hm j hj
        have hm' : cnt S m + (S m).toNat = 0 := hm
        by_cases h1 : j = m
        · subst h1
          cases hs : S j with
          | false => rfl
          | true => rw [hs] at hm'; simp at hm'
        · exact ih (by omega) j (by omega)
    funext j
    by_cases hj : j < n
    · exact key n h0 j hj
    · exact h j (by omega)
  · intro h0
    exact cnt_none fun j _ => by rw [h0]
set_option maxRecDepth 100000 in
set_option maxHeartbeats 2000000 in
theorem walk (n : Int) (lv : Value) (list : List Int) (w : World) (hl : NumsAt w .i64 lv list) (hT : TabAt 0 Lib.deBruijn64tab w) :
    Calls Tryd.prog 6 #[.int .i64 n, lv] w fun e w' => e = .returned (.bool true) ∧ Below w.heap.size w w' := by
  have HL := Lib.hid hl; have HT := Lib.hid hT
  obtain ⟨la, lcap, rfl, lc1, lc2, -, -⟩ := hl
  clear hT
  unfold maxLen at lc2
  obtain ⟨N, hN⟩ : ∃ N : Nat, max 0 (min n 500) = (N : Int) := ⟨(max 0 (min n 500)).toNat, by omega⟩
  have hN5 : N ≤ 500 := by omega
  have hsz : sizeZ (N : Int) = N := by unfold sizeZ; omega
  have hmk : ∀ W, (Instr.makeSlice 57 (.int .i64 (N : Int)) (.int .i64 (N : Int))).run Tryd.prog W = .ok (.slice (some ⟨W.heap.size, 0, none⟩) N N) (W.alloc (.cells (madeCells #[.bool false] N) 4)) :=
    fun W => run_make_row' (P := Tryd.prog) 57 4 (.bool false) 1 Tryd.underlying57 boolInfo rfl .i64 .i64 N (by omega) (by omega) W
  have NB := Lib.hid (fun W => newBits_any (N : Int) W)
  rw [hsz] at NB
  clear hsz
  go_enter Tryd.func6, Tryd.ntmps6
  go_wp2_with fail
  refine (awake_any _ HT.out).mono ?_
  rintro e w1 ⟨rfl, hg⟩
  have HT1 := Lib.hid (tab_later HT.out hg)
  have HL1 := Lib.hid (HL.out.later hg)
  have HG1 := Lib.hid hg; clear hg
  go_wp2_with fail
  refine (NB.out w1).mono ?_
  rintro e w2 ⟨rfl, hb, hg⟩
  have HB2 := Lib.hid hb; have HG2 := Lib.hid hg; clear hb hg
  have HTL := Lib.hid (fun wr (hw : Below w1.heap.size w1 wr) => tab_later HT1.out hw)
  have HLL := Lib.hid (fun wr (hw : Below w1.heap.size w1 wr) => HL1.out.later hw)
  have HGL := Lib.hid (fun wr (hw : Below w1.heap.size w1 wr) => HG1.out.trans (hw.mono HG1.out.size))
  have HSZ := Lib.hid (fun wr (hw : Below w1.heap.size w1 wr) => hw.size)
  have hR := World.rowIs_made w2 (.bool false) N 4
  have hB3 := HB2.out.later ((Below.refl w2.heap.size w2).alloc (Nat.le_refl _) (.cells (madeCells #[.bool false] N) 4))
  have hG3 := HG2.out.alloc HG2.out.size (.cells (madeCells #[.bool false] N) 4)
  have HR3 := Lib.hid hR; have HB3 := Lib.hid hB3; have HG3 := Lib.hid hG3; clear hR hB3 hG3
  have hgb : w1.heap.size ≤ w2.heap.size := HG2.out.size
  go_upto_block 0 with fail
  generalize w2.alloc (.cells (madeCells #[.bool false] N) 4) = w3 at *
  generalize hbb : w1.heap.size = B at *
  generalize w2.heap.size = gb at *
  have HBB := Lib.hid hbb; clear hbb
  go_cut [4, 7, 8, 9, 10] from 24 to 62 (fun s4 s7 s8 s9 s10 wr => ∃ S, s7 = .int .i64 (cnt S N : Int) ∧ BitsAt wr B (B + 1) N S ∧ wr.rowIs gb 4 N (fun j => .bool (S j)) ∧ Below B w1 wr)
  case first =>
    go_wp2_with fail
    go_loopg [7, 8] 60 (fun gg s7 s8 wr => ∃ (k : Nat) (S : Nat → Bool), gg = 60 - k ∧ k ≤ 60 ∧ s8 = .int .i64 k ∧ s7 = .int .i64 (cnt S N : Int) ∧ BitsAt wr B (B + 1) N S ∧ wr.rowIs gb 4 N (fun j => .bool (S j)) ∧ Below B w1 wr)
    case atStart => exact ⟨0, fun _ => false, rfl, by omega, rfl, by rw [cnt_none (fun _ _ => rfl)]; rfl, HB3.out, HR3.out, HG3.out⟩
    case round =>
      obtain ⟨k, S, hgk, hk, rfl, rfl, hb, hr, hg⟩ := hrel
      have HK := Lib.hid hgk; have HB := Lib.hid hb; have HR := Lib.hid hr; have HG := Lib.hid hg; clear hgk
      have hcn := cnt_le S N
      by_cases hgo : k < list.length ∧ k < 60
      · obtain ⟨hgo1, hgo2⟩ := hgo
        obtain ⟨la', lcap', hla', -, -, -, hcc⟩ := HLL.out wr hg
        injection hla' with hla1 hla2 hla3
        subst hla1 hla3
        obtain ⟨cb, co, hca, hcv, hcw⟩ := hcc k hgo1
        subst hca
        have bx := bounds_i64 hcw
        clear hcc hcw hla2
        generalize list[k] = x at *
        have hBs : B ≤ wr.heap.size := HSZ.out wr hg
        have SK := Lib.hid (set_keep B (B + 1) N S x true wr hb hBs)
        clear hb hg
        by_cases hin : 0 ≤ x ∧ x < N
        · obtain ⟨hin0, hin1⟩ := hin
          obtain ⟨j, rfl⟩ := Int.eq_ofNat_of_zero_le hin0
          have hj : j < N := by omega
          have hcj := hr.cell hj
          have hfj := hr.frozen j
          have hlj := hr.lt
          clear hr
          cases hs : S j with
          | true =>
            rw [hs] at hcj
            rw [setB_same hs, setS_same (S := S) (by rw [Int.toNat_natCast]; exact hs)] at SK
            clear hs
            go_wp2_with fail
            all_goals (try (exfalso; go_light; omega))
            refine SK.out.mono ?_
            rintro e w4 ⟨rfl, hb4, hg4, hk4⟩
            have HB4 := Lib.hid hb4; have HR4 := Lib.hid (hk4.row HR.out (by decide)); have HG4 := Lib.hid (HG.out.trans hg4); clear hb4 hg4 hk4
            go_wp2_with fail
            go_roundg (60 - (k + 1))
            case measure => rw [HK.out]; omega
            case rel => exact ⟨k + 1, S, rfl, by omega, by go_num, rfl, HB4.out, HR4.out, HG4.out⟩
          | false =>
            rw [hs] at hcj
            rw [setB_yes hj hs] at SK
            have HCN := Lib.hid (cnt_set hj hs)
            clear hs
            go_wp2_with fail
            all_goals (try (exfalso; go_light; omega))
            refine SK.out.mono ?_
            rintro e w4 ⟨rfl, hb4, hg4, hk4⟩
            have hr4 := hk4.row HR.out (by decide)
            have hlj4 := hr4.lt
            have hcj4 : ∃ u, w4.cell? ⟨gb, j, none⟩ = some (.bool u) := ⟨_, hr4.cell hj⟩
            obtain ⟨u4, hcj4⟩ := hcj4
            have hfj4 := hr4.frozen j
            have HB4 := Lib.hid (bits_keep (j := j) (u := .bool true) hb4 (by obtain ⟨c, hc, -⟩ := hr4; exact ⟨c, _, hc⟩))
            have HR4 := Lib.hid (row_set hr4 hj)
            have HG4 := Lib.hid ((HG.out.trans hg4).setCell (p := ⟨gb, j, none⟩) hgb (.bool true))
            clear hb4 hg4 hk4 hr4
            go_wp2_with fail
            go_roundg (60 - (k + 1))
            case measure => rw [HK.out]; omega
            case rel => exact ⟨k + 1, _, rfl, by omega, by go_num, by rw [HCN.out]; go_num, HB4.out, HR4.out, HG4.out⟩
        · rw [setB_out hin, setS_out hin] at SK
          clear hr
          have hin' : 0 ≤ x → ¬ x < (N : Int) := by omega
          clear hin
          go_wp2_with fail
          all_goals (try (exfalso; go_light; omega))
          all_goals (
            refine SK.out.mono ?_
            rintro e w4 ⟨rfl, hb4, hg4, hk4⟩
            have HB4 := Lib.hid hb4; have HR4 := Lib.hid (hk4.row HR.out (by decide)); have HG4 := Lib.hid (HG.out.trans hg4); clear hb4 hg4 hk4
            go_wp2_with fail
            go_roundg (60 - (k + 1))
            case measure => rw [HK.out]; omega
            case rel => exact ⟨k + 1, S, rfl, by omega, by go_num, rfl, HB4.out, HR4.out, HG4.out⟩)
      · have hgo' : (k : Int) < list.length → ¬ (k : Int) < 60 := by omega
        clear hgo hb hr hg
        go_wp2_with fail
        all_goals (try (exfalso; go_light; omega))
        all_goals go_meet
        all_goals exact ⟨S, rfl, HB.out, HR.out, HG.out⟩
  case rest =>
    obtain ⟨S, rfl, hb, hr, hg⟩ := hcut
    obtain ⟨wr, hwr⟩ : ∃ z, z = wc := ⟨_, rfl⟩
    subst hwr
    have hcn := cnt_le S N
    have hTr := HTL.out wr hg
    have HB := Lib.hid hb; have HR := Lib.hid hr; have HG := Lib.hid hg; have HTr := Lib.hid hTr
    have NX := Lib.hid (fun i => next_any B (B + 1) N S i wr hb hTr)
    have BL := Lib.hid (fun i => below_any B (B + 1) N S i wr hb)
    have CB := Lib.hid (clone_bits B (B + 1) N S wr hb)
    have hBs : B ≤ wr.heap.size := HSZ.out wr hg
    have hlj := hr.lt
    clear hb hr hg hTr
    go_wp2_with fail
    refine (NX.out 0).mono ?_
    rintro e w5 ⟨r0, rfl, hr0, hw5⟩
    subst hw5
    go_wp2_with fail
    go_loopg [11, 12] (N + 1) (fun gg s11 s12 wx => ∃ (lo : Nat) (r : Int), gg = N + 1 - lo ∧ lo ≤ N ∧ s11 = .int .i64 (cnt S lo : Int) ∧ s12 = .int .i64 r ∧ IsNext N S (lo : Int) r ∧ wx = w5)
    case atStart => exact ⟨0, r0, rfl, by omega, rfl, rfl, hr0, rfl⟩
    case round =>
      obtain ⟨lo, r, hgk, hlo, rfl, rfl, hnx, hwx⟩ := hrel
      subst hwx
      have HK := Lib.hid hgk; clear hgk
      have hcl := cnt_le S lo
      rcases hnx with ⟨rfl, hnone⟩ | ⟨k, rfl, hkN, hlk, hSk, hbet⟩
      · have he : cnt S lo = cnt S N := by
          obtain ⟨d, rfl⟩ : ∃ d, N = lo + d := ⟨N - lo, by omega⟩
          rw [cnt_add, cnt_none (n := d) (fun j hj => hnone (lo + j) (by omega) (by omega))]
          rfl
        rw [he]
        clear he hnone
        obtain ⟨wo, hwo⟩ : ∃ z, z = wr := ⟨_, rfl⟩
        subst hwo
        go_wp2_with fail
        refine CB.out.mono ?_
        rintro e w6 ⟨b', rfl, hb6, hg6⟩
        have HZ := Lib.hid (bits_high HB.out)
        have hz0 : (fun j => decide (0 ≤ j) && S j) = S := by funext j; simp
        have hs6 := hg6.size
        have HB6 := Lib.hid (show BitsAt w6 wo.heap.size b' N (fun j => decide (0 ≤ j) && S j) from by rw [hz0]; exact hb6)
        have HG6 := Lib.hid hg6
        clear hb6 hg6 hz0
        go_wp2_with fail
        go_loopg [14, 89] N (fun gg s14 s89 wx => ∃ k : Nat, gg = N - k ∧ k ≤ N ∧ s89 = .int .i64 k ∧ BitsAt wx wo.heap.size b' N (fun j => decide (k ≤ j) && S j) ∧ Below wo.heap.size wo wx)
        case atStart => exact ⟨0, rfl, by omega, rfl, HB6.out, HG6.out⟩
        case round =>
          obtain ⟨k, hgk, hk, rfl, hbk, hgk2⟩ := hrel
          have HK := Lib.hid hgk; have HBK := Lib.hid hbk; have HGK := Lib.hid hgk2; have hsk := hgk2.size; clear hgk
          by_cases hkN : k < N
          · have SK := Lib.hid (set_any wo.heap.size b' N _ (k : Int) false wr hbk hsk)
            have hst : setS N (fun j => decide (k ≤ j) && S j) (k : Int) false = fun j => decide (k + 1 ≤ j) && S j := by
              funext j; unfold setS; rw [Int.toNat_natCast]
              by_cases h1 : j = k
              · subst h1; rw [if_pos ⟨by omega, by omega, rfl⟩]; rw [decide_eq_false (show ¬ j + 1 ≤ j by omega)]; rfl
              · rw [if_neg (fun h => h1 h.2.2)]
                have : decide (k ≤ j) = decide (k + 1 ≤ j) := by rw [decide_eq_decide]; omega
                show (decide (k ≤ j) && S j) = _
                rw [this]
            rw [hst] at SK
            clear hst hbk hgk2
            go_wp2_with fail
            refine SK.out.mono ?_
            rintro e w8 ⟨rfl, hb8, hg8⟩
            have HB8 := Lib.hid hb8; have HG8 := Lib.hid (HGK.out.trans hg8); clear hb8 hg8
            go_wp2_with fail
            go_roundg (N - (k + 1))
            case measure => rw [HK.out]; omega
            case rel => exact ⟨k + 1, rfl, by omega, by go_num, HB8.out, HG8.out⟩
          · obtain rfl : k = N := by omega
            have hnone : (fun j => decide (k ≤ j) && S j) = fun _ => false := by
              funext j
              by_cases h1 : k ≤ j
              · rw [HZ.out j h1]; simp
              · simp [h1]
            rw [hnone] at hbk
            have hTx := HTL.out wr (HG.out.trans (hgk2.mono hBs))
            have hbs := HB.out.later hgk2
            have hck : clipN k (k : Int) = k := by unfold clipN; omega
            have B2 := Lib.hid (below_any B (B + 1) k S (k : Int) wr hbs)
            rw [hck] at B2
            have N2 := Lib.hid (next_any _ b' k _ 0 wr hbk hTx)
            have HBs := Lib.hid hbs
            have HBc := Lib.hid hbk
            have HGx := Lib.hid (HGL.out wr (HG.out.trans (hgk2.mono hBs)))
            clear hnone hbk hTx hbs hck hgk2
            go_wp2_with fail
            refine B2.out.mono ?_
            rintro e w9 ⟨rfl, hw9⟩
            subst hw9
            go_wp2_with fail
            refine N2.out.mono ?_
            rintro e w10 ⟨r2, rfl, hr2, hw10⟩
            subst hw10
            obtain rfl := hr2.unique (Or.inl ⟨rfl, fun _ _ _ => rfl⟩)
            clear hr2
            go_wp2_with fail
            refine (NB.out _).mono ?_
            rintro e w11 ⟨rfl, hb11, hg11⟩
            have SM := Lib.hid (same_any _ b' k _ _ k _ _ w11 (HBc.out.later hg11) hb11)
            have HBs11 := Lib.hid (HBs.out.later hg11); have HBc11 := Lib.hid (HBc.out.later hg11)
            have HG11 := Lib.hid (HGx.out.trans (hg11.mono HGx.out.size)); clear hg11 hb11
            go_wp2_with fail
            refine SM.out.mono ?_
            rintro e w12 ⟨r3, rfl, hr3, hg12⟩
            obtain rfl : r3 = true := hr3.2 (by simp)
            have SM2 := Lib.hid (same_any B (B + 1) k _ b' k S _ w12 (HBs11.out.later hg12) (HBc11.out.later hg12))
            have HG12 := Lib.hid (HG11.out.trans (hg12.mono HG11.out.size)); clear hg12 hr3
            go_wp2_with fail
            refine SM2.out.mono ?_
            rintro e w13 ⟨r4, rfl, hr4, hg13⟩
            have HG13 := Lib.hid (HG12.out.trans (hg13.mono HG12.out.size)); clear hg13
            have hr4' : r4 = decide (cnt S k = 0) := by
              have hz := cnt_zero HZ.out
              by_cases h0 : cnt S k = 0
              · rw [decide_eq_true h0]; exact hr4.2 (by first | exact ⟨rfl, hz.1 h0⟩ | exact ⟨trivial, hz.1 h0⟩ | exact hz.1 h0)
              · rw [decide_eq_false h0]
                cases hr : r4 with
                | false => rfl
                | true => exact absurd (hz.2 (by have := hr4.1 hr; first | exact this.2 | exact this)) h0
            clear hr4
            have hq : ((cnt S k : Int) == 0) = r4 := by rw [hr4']; by_cases h0 : cnt S k = 0 <;> simp [h0]
            clear hr4'
            go_wp2_with fail
            go_ret
            exact ⟨rfl, HG13.out⟩
      · have he : cnt S k = cnt S lo := by
          obtain ⟨d, rfl⟩ : ∃ d, k = lo + d := ⟨k - lo, by omega⟩
          rw [cnt_add, cnt_none (n := d) (fun j hj => hbet (lo + j) (by omega) (by omega))]
          rfl
        have hc1 : cnt S (k + 1) = cnt S lo + 1 := by show cnt S k + (S k).toNat = _; rw [he, hSk]; rfl
        have hck : clipN N (k : Int) = k := by unfold clipN; omega
        have B1 := Lib.hid (BL.out (k : Int))
        rw [hck, he] at B1
        have N1 := Lib.hid (NX.out ((k : Int) + 1))
        have hcell := HR.out.cell hkN
        rw [hSk] at hcell
        have HC1 := Lib.hid hc1
        clear he hc1 hck hSk hbet
        generalize cnt S lo = m0 at *
        go_wp2_with fail
        refine B1.out.mono ?_
        rintro e w6 ⟨rfl, hw6⟩
        subst hw6
        go_wp2_with fail
        refine N1.out.mono ?_
        rintro e w7 ⟨r1, rfl, hr1, hw7⟩
        subst hw7
        have HR1 := Lib.hid hr1; clear hr1
        go_wp2_with fail
        go_roundg (N + 1 - (k + 1))
        case measure => rw [HK.out]; omega
        case rel => exact ⟨k + 1, r1, rfl, by omega, by rw [HC1.out]; go_num, rfl, by simpa using HR1.out, rfl⟩
theorem own : ownKnob Tryd.prog.godebug = none := by kernel_rfl
theorem laidOut : laidOutB Tryd.prog = true := by kernel_rfl
set_option maxRecDepth 100000 in
theorem lifted (os : Os) (started : os.Started) (H : Type) (enc : TypeId × Value → H) :
    ReturnsInHanded {} Tryd.checked os 6 .any (fun w args => (Rows.packSetsSpec.pre enc Tryd.prog Tryd.f6 Rows.packSetsRow.domain false w args ∧ laidMet Tryd.prog Rows.packSetsRow.laid w) ∧ sizedMet enc Tryd.prog Tryd.f6 (OpenSpec.ofChange Rows.packSetsSpec) false w args)
      (Rows.packSetsSpec.post enc Tryd.prog Tryd.f6 false true false false) := by
  refine returnsInHanded_of_change_and (C := Tryd.checked) (X := fun w _ => laidMet Tryd.prog Rows.packSetsRow.laid w) (fun _ _ _ hh h => h.of_heap hh) own started (by kernel_rfl) Tryd.func6
    (ChangeSpec.witness_at (enc := enc) (C := Tryd.checked) (os := os) (X := fun w _ => laidMet Tryd.prog Rows.packSetsRow.laid w) false (laidWorld os) #[.int .i64 0, .slice none 0 0] 8 rfl (by kernel_rfl) (by kernel_rfl) (by kernel_rfl) (by kernel_rfl) (by kernel_rfl) (laid_met os _)) ?_
  intro W base args ds gs before hval0 hW hcnd hsz0 hL _
  have hval : ∀ (j : Nat) t v, Tryd.f6.params[j]? = some t → args[j]? = some v → Value.okWide Tryd.prog W .any base t v := hval0
  have hW' := hW
  obtain ⟨p, q, hA0, hV, rfl, hfz, hnd⟩ := hW
  have hA : DataW.TrodAll enc Tryd.prog W 0 (fun _ => true) true Tryd.f6.params.toList args.toList ds p := hA0
  rw [Tryd.params6] at hA hval
  obtain ⟨v0, vs0, d0, ds0, p0, q0, hargs, rfl, rfl, h0, r0⟩ := trodAll_cons hA
  obtain ⟨v1, vs1, d1, ds1, p1, q1, rfl, rfl, rfl, h1, r1⟩ := trodAll_cons r0
  obtain ⟨rfl, rfl, rfl⟩ := trodAll_nil r1
  obtain rfl : args = #[v0, v1] := by cases args; simp_all
  obtain ⟨rfl, rfl⟩ := trodVars_none hV
  have k0 := h0
  have lt0 : ∀ x ∈ p0, x.block < W.heap.size := by obtain ⟨m, hm⟩ := k0; exact DataW.trod_lt m _ _ _ hm
  have k1 := h1
  have lt1 : ∀ x ∈ p1, x.block < W.heap.size := by obtain ⟨m, hm⟩ := k1; exact DataW.trod_lt m _ _ _ hm
  obtain ⟨n, rfl, -, -, hn⟩ := open_int Tryd.underlying3 (hval 0 3 v0 rfl rfl) h0
  obtain ⟨list, hl⟩ := open_nums Tryd.underlying23 Tryd.underlying3 (by kernel_rfl) (hval 1 23 v1 rfl rfl) h1
  have hT := tab_of_laid hL
  clear hA0 hval0
  refine (walk n v1 list W hl hT).mono fun e W' ⟨he, bel⟩ => ?_
  subst he
  exact ⟨_, rfl, _, _, _, [], _, [], hW', trodAll_mk1 (shut_bool Tryd.underlying4 _), (trodAll_cons_mk (Below.trod laidOut (by kernel_rfl) (of_decide_eq_true (by kernel_rfl)) k0 bel lt0) (trodAll_cons_mk (Below.trod laidOut (by kernel_rfl) (of_decide_eq_true (by kernel_rfl)) k1 bel lt1) trodAll_mk0)), rfl, bel.frame _, fun h => by cases h⟩
theorem over : Rows.packSetsRow.holds Tryd.pinned (OpenSpec.ofChange Rows.packSetsSpec) :=
  OpenClaim.holds_of_wide 6 Tryd.f6 rfl rfl rfl rfl rfl rfl rfl ⟨rfl, rfl, rfl, rfl, rfl⟩ rfl rfl rfl rfl rfl (by kernel_rfl) Tryd.func6 (by kernel_rfl)
    (of_decide_eq_true (by kernel_rfl)) (by unfold Func.isWrapper; rw [if_neg (by decide +kernel)]; exact ⟨rfl, rfl⟩)
    (fun os started H enc _ => lifted os started H enc)
theorem proved : Rows.PackSetsCardSaid :=
  Claim7.holds_tied_plain_at .later [] [.data] true (true, "d027a49ad6245683e2388a9bf0917ed7bf2ed7afc987c7a54defa697072aefb8") false
    over (fun _ h => by cases h) (by kernel_rfl) (fun _ h => by cases h) packSets_row_tie rfl ⟨rfl, rfl⟩ (by kernel_rfl) rfl
    (fun f fn hf hfn => by
      obtain rfl : f = 6 := Option.some.inj ((show Tryd.prog.funcNamed "foundling/foundlinglaw02.PackSets" = some 6 by kernel_rfl).symm.trans hf) |>.symm
      obtain rfl : fn = Tryd.f6 := (Option.some.inj (Tryd.func6.symm.trans hfn)).symm
      exact ⟨by kernel_rfl, fun j t ht => by
        have hall : (Tryd.f6.params.all fun t => !Tryd.prog.wantsStandIn t) = true := by kernel_rfl
        rw [Array.all_eq_true_iff_forall_mem] at hall
        have := hall t (Array.mem_of_getElem? ht)
        show Tryd.prog.wantsStandIn t = false
        simpa using this⟩)
    (by kernel_rfl)
end Go.Proofs.YtmbfkagoiijjmaaDoor.packSets
