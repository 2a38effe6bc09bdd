/- The program's Encode. -/
import Derived.Test.YtnajgpefmknmpaaDoorCodeL
import Derived.Deep.RegionHeld3
namespace Go.Proofs.YtnajgpefmknmpaaDoor
open Go.RowKit
set_option linter.unusedVariables false
/-- what Encode gives: the bytes in a row of the call's own, or nothing -/
def EncPost (L : List Ins) (w : World) (e : Ending) (w' : World) : Prop :=
  ∃ v', e = .returned (.tuple #[v', .int .i64 (if L.all encOk then 0 else 1)]) ∧ (L.all encOk = true → OwnsB w' w.heap.size v' (encAll L)) ∧ (L.all encOk = false → v' = .slice none 0 0) ∧ Below w.heap.size w w'
theorem enc_no {L : List Ins} {x : Ins} (hx : x ∈ L) (h : encOk x = false) : L.all encOk = false := by
  rw [List.all_eq_false]; exact ⟨x, hx, by rw [h]; decide⟩
theorem EncPost.no {L : List Ins} {x : Ins} {w w' : World} (hx : x ∈ L) (h : encOk x = false) (hb : Below w.heap.size w w') : EncPost L w (.returned (.tuple #[.slice none 0 0, .int .i64 1])) w' := by
  have := enc_no hx h
  exact ⟨_, by rw [this]; rfl, (fun e => by rw [this] at e; cases e), fun _ => rfl, hb⟩
theorem EncPost.yes {L : List Ins} {w w' : World} {v : Value} (h : L.all encOk = true) (ho : OwnsB w' w.heap.size v (encAll L)) (hb : Below w.heap.size w w') : EncPost L w (.returned (.tuple #[v, .int .i64 0])) w' :=
  ⟨v, by rw [h]; rfl, fun _ => ho, (fun e => by rw [h] at e; cases e), hb⟩
set_option maxRecDepth 100000 in
set_option maxHeartbeats 4000000 in
theorem encode_any (v : Value) (L : List Ins) (w : World) (h : InsAt w v L) (hL : L.length ≤ 1000) :
    Calls Tryd.prog 9 #[v] w (EncPost L w) := by
  obtain ⟨i0, hi, hz0, hz1, hz2⟩ := info_parts byteInfo
  have H := Lib.hid h
  obtain ⟨a, cap, rfl, hcap, hmx, -⟩ := h
  have F := Lib.hid (forms_any w)
  have Z := Lib.hid (fun w' => zeroForms w')
  have hz : ((List.replicate 20 [Value.string ⟨#[]⟩, .int .i64 0, .bool false, .int .i64 0]).flatten).toArray.size = 80 := by decide
  have hf : formsC.toArray.size = 80 := by decide
  have h1 : formsC.toArray.all (·.oneCell') = true := by kernel_rfl
  have hV : formsV = .agg formsC.toArray := rfl
  have FC := Lib.hid formsC_at
  rw [hV] at F
  generalize hq : formsC.toArray = fs at hf h1 F hV FC
  clear hV hq
  generalize List.toArray (List.flatten (List.replicate 20 [Value.string ⟨#[]⟩, .int .i64 0, .bool false, .int .i64 0])) = zs at Z hz
  generalize hn : L.length = n at *
  have HN := Lib.hid hn; clear hn
  go_enter Tryd.func9, Tryd.ntmps9
  go_wp2_with (go_at_call 18; refine F.out.mono ?_; rintro e w1 ⟨rfl, hg1⟩)
  have HG1 := Lib.hid hg1; clear hg1
  rw [Z.out]
  have hS := run_storeCells_new (P := Tryd.prog) w1 59 zs fs (by rw [hf]; kernel_rfl) (by rw [hz, hf]) h1
  go_wp2_with fail
  clear hS h1 hz
  have q2 : (w1.alloc (.cells fs 59)).heap[w1.heap.size]? = some (.cells fs 59 (0, 0)) := heap_alloc_new w1 _
  have g2 : Below w.heap.size w (w1.alloc (.cells fs 59)) := HG1.out.alloc HG1.out.size _
  generalize w1.alloc (.cells fs 59) = w2 at *
  generalize w1.heap.size = bA at *
  have Q2 := Lib.hid q2; have G2 := Lib.hid g2
  clear q2 g2
  go_loopg [4, 16] n (fun g o i wr => ∃ k : Nat, g = n - k ∧ k ≤ n ∧ i = .int .i64 k ∧ OwnsB wr w.heap.size o (encAll (L.take k)) ∧ (L.take k).all encOk = true ∧ Below w.heap.size w wr ∧ wr.heap[bA]? = some (.cells fs 59 (0, 0)))
  case atStart => exact ⟨0, rfl, by omega, rfl, World.ownsRow_nil _ _ _ _, rfl, G2.out, Q2.out⟩
  case round =>
    obtain ⟨k, hgk, hk, rfl, hb, hok, hg, hq⟩ := hrel
    have HBk := Lib.hid hb; have HGk := Lib.hid hg; have HK := Lib.hid hgk; have HOK := Lib.hid hok; have HQ := Lib.hid hq; clear hb hg hgk hok hq
    by_cases hlt : k < n
    · have hne : L ≠ [] := by rintro rfl; have := HN.out; simp at this; omega
      obtain ⟨b, o, cap', hv, -, hbl, hall⟩ := (H.out.later HGk.out).cells hne
      have hkl : k < L.length := by rw [HN.out]; exact hlt
      obtain ⟨hI, c0, c1, c2⟩ := hall k hkl
      simp only [Value.slice.injEq] at hv
      obtain ⟨rfl, -, -⟩ := hv
      have AS := Lib.hid (all_snoc L k hkl); have ES := Lib.hid (encAll_snoc L k hkl)
      generalize hx : L[k] = x at *
      have HX := Lib.hid hx
      clear hall hx
      obtain ⟨xo, xa, xb⟩ := x
      simp only at c0 c1 c2
      by_cases hop : 0 ≤ xo ∧ xo < 20
      · obtain ⟨q, rfl⟩ := Int.eq_ofNat_of_zero_le hop.1
        have hq20 : q < 20 := by omega
        obtain ⟨y0, y1, y2, y3⟩ := FC.out q hq20
        have x0 := (cell_of_row wr bA (q * 4) _ _ _ HQ.out).trans y0
        have x1 := (cell_of_row wr bA (q * 4 + 1) _ _ _ HQ.out).trans y1
        have x2 := (cell_of_row wr bA (q * 4 + 2) _ _ _ HQ.out).trans y2
        have x3 := (cell_of_row wr bA (q * 4 + 3) _ _ _ HQ.out).trans y3
        have hba := lt_of_cell x0
        have d20 : decide ((20 : Int) ≤ (q : Int)) = false := by simp; omega
        obtain ⟨f1, f2, f3⟩ := fm_all (q : Int)
        clear y0 y1 y2 y3
        generalize hff : fmOf (q : Int) = f at *
        have HFF := Lib.hid hff; clear hff
        obtain ⟨fn, fa, fs', fb⟩ := f
        simp only at f1 f2 f3 x0 x1 x2 x3
        go_upto_region 9 with fail
        have g3 : Below wr.heap.size wr ((wr.alloc (.cells #[.int .i64 (q : Int), .int .i64 xa, .int .i64 xb] 27)).alloc (.cells #[.string ⟨fn.toArray⟩, .int .i64 (fa : Int), .bool fs', .int .i64 (fb : Int)] 58)) := ((Below.refl _ _).alloc (Nat.le_refl _) _).alloc (by simp) _
        have qx : ((wr.alloc (.cells #[.int .i64 (q : Int), .int .i64 xa, .int .i64 xb] 27)).alloc (.cells #[.string ⟨fn.toArray⟩, .int .i64 (fa : Int), .bool fs', .int .i64 (fb : Int)] 58)).heap[wr.heap.size]? = some (.cells #[.int .i64 (q : Int), .int .i64 xa, .int .i64 xb] 27 (0, 0)) := (heap_alloc_old _ _ (by simp)).trans (heap_alloc_new wr _)
        have qf : ((wr.alloc (.cells #[.int .i64 (q : Int), .int .i64 xa, .int .i64 xb] 27)).alloc (.cells #[.string ⟨fn.toArray⟩, .int .i64 (fa : Int), .bool fs', .int .i64 (fb : Int)] 58)).heap[wr.heap.size + 1]? = some (.cells #[.string ⟨fn.toArray⟩, .int .i64 (fa : Int), .bool fs', .int .i64 (fb : Int)] 58 (0, 0)) := by
          have := heap_alloc_new (wr.alloc (.cells #[.int .i64 (q : Int), .int .i64 xa, .int .i64 xb] 27)) (.cells #[.string ⟨fn.toArray⟩, .int .i64 (fa : Int), .bool fs', .int .i64 (fb : Int)] 58)
          simpa using this
        generalize ((wr.alloc (.cells #[.int .i64 (q : Int), .int .i64 xa, .int .i64 xb] 27)).alloc (.cells #[.string ⟨fn.toArray⟩, .int .i64 (fa : Int), .bool fs', .int .i64 (fb : Int)] 58)) = w3 at *
        have G3 := Lib.hid g3; have QX := Lib.hid qx; have QF := Lib.hid qf
        have hb3 : OwnsB w3 w.heap.size u4 (encAll (L.take k)) := owns_later HBk.out g3
        have HB3 := Lib.hid hb3
        have hwr := HGk.out.size
        have hw3 := g3.size
        have hbx : wr.heap.size < w3.heap.size := lt_of_cell (cell_of_row w3 _ 0 _ _ _ qx)
        have hbf : wr.heap.size + 1 < w3.heap.size := lt_of_cell (cell_of_row w3 _ 0 _ _ _ qf)
        have FX := Lib.hid (show ∀ W, Kp w.heap.size w3 W → W.cell? ⟨wr.heap.size, 0, none⟩ = some (.int .i64 (q : Int)) ∧ W.cell? ⟨wr.heap.size, 1, none⟩ = some (.int .i64 xa) ∧ W.cell? ⟨wr.heap.size + 1, 1, none⟩ = some (.int .i64 (fa : Int)) ∧ W.cell? ⟨wr.heap.size + 1, 2, none⟩ = some (.bool fs') from fun W hW => by
          have a1 := hW.block QX.out (by decide)
          have a2 := hW.block QF.out (by decide)
          exact ⟨cell_of_row W _ _ _ _ _ a1, cell_of_row W _ _ _ _ _ a1, cell_of_row W _ _ _ _ _ a2, cell_of_row W _ _ _ _ _ a2⟩)
        have k3 : Kp w.heap.size w3 w3 := Kp.refl _ _
        obtain ⟨p0, p1, p2, p3⟩ := FX.out w3 k3
        have hle : (encAll (L.take k)).length ≤ 5000 := by
          have := encAll_le (L.take k)
          have h2 : (L.take k).length ≤ 1000 := by rw [List.length_take]; have := HN.out; omega
          omega
        have wq : IntKind.u8.wrap (q : Int) = (q : Int) := by simp [IntKind.wrap, IntKind.bits, IntKind.signed]; omega
        have HP := Lib.hid (show ∀ (v4 : Value) (w4 : World), w4.ownsRow w.heap.size 5 1 v4 ((encAll (L.take k)).length + 1) (Lib.byteCells (encAll (L.take k)) ++ [Value.int .u8 (q : Int)]) → ((w3.alloc (.cells #[.int .u8 (q : Int)] 5)).drew).grownBy w4 u4.ownBlock → Kp w.heap.size w3 w4 ∧ OwnsB w4 w.heap.size v4 (encAll (L.take k) ++ [UInt8.ofNat q]) from fun v4 w4 h1 h2 =>
          ⟨(Kp.refl w.heap.size w3).push (by omega) HB3.out ⟨h2.os, h2.tape, h2.output, h2.size, h2.block⟩, ownsB_of h1 (by simp [Lib.byteCells]; omega)⟩)
        have A0 := Lib.hid (show ((w3.alloc (.cells #[.int .u8 (q : Int)] 5)).drew).ownsRow w.heap.size 5 1 u4 (encAll (L.take k)).length (Lib.byteCells (encAll (L.take k))) from owns_later HB3.out (by repeat (first | with_reducible exact Below.refl _ _ | ((with_reducible refine Below.setCell ?_ ?_ _); rotate_left; focus (first | (simp; done) | (simp; omega) | omega)) | ((with_reducible refine Below.alloc ?_ ?_ _); rotate_left; focus (first | (simp; done) | (simp; omega) | omega)) | (with_reducible refine Below.drew ?_))))
        have A1 := Lib.hid (show ∀ j u, ([Value.int .u8 (q : Int)])[j]? = some u → ((w3.alloc (.cells #[.int .u8 (q : Int)] 5)).drew).cell? ((⟨w3.heap.size, 0, none⟩ : Addr).add j) = some u by
          intro j u hj
          match j, hj with
          | 0, hj => simp at hj; subst hj; simp [Addr.add])
        have A2 := Lib.hid (show ∀ u ∈ [Value.int .u8 (q : Int)], u.oneCell' = true by intro u hu; simp at hu; subst hu; rfl)
        have A3 := Lib.hid (show (encAll (L.take k)).length + 1 ≤ maxLen by unfold maxLen; omega)
        have A4 := Lib.hid (show ((encAll (L.take k)).length + 1) * 1 ≤ 140737488355328 by omega)
        have A5 := Lib.hid (show w.heap.size ≤ ((w3.alloc (.cells #[.int .u8 (q : Int)] 5)).drew).heap.size by simp; omega)
        clear g3 qx qf hb3
        go_region_held3 (fun w' => w'.cell? ⟨wr.heap.size, 0, none⟩ = some (.int .i64 (q : Int)) ∧ w'.cell? ⟨wr.heap.size, 1, none⟩ = some (.int .i64 xa) ∧ w'.cell? ⟨wr.heap.size + 1, 1, none⟩ = some (.int .i64 (fa : Int)) ∧ w'.cell? ⟨wr.heap.size + 1, 2, none⟩ = some (.bool fs'))
          (first | exact ⟨p0, p1, p2, p3⟩ | exact ⟨r0, r1, r2, r3⟩ | exact ⟨t0, t1, t2, t3⟩ | (refine FX.out _ ?_; repeat (first | with_reducible exact Kp.refl _ _ | (refine Kp.drew ?_) | (refine Kp.alloc ?_ (by first | omega | (simp; omega)) _))))
          (first
          | (refine step_append_own rfl (.tmp 33) (.tmp 37) 29 rfl w.heap.size 5 i0 (.int .u8 0) 1 1 Tryd.underlying29 hi hz0 hz1 hz2 rfl (by decide) u4 _ _ (by simp [Act.eval]) A0.out ⟨w3.heap.size, 0, none⟩ 1 1 [.int .u8 (q : Int)] (by simp [Act.eval]) rfl A1.out A2.out A3.out A4.out A5.out ?_
             intro v4 w4 hown4 hgr4
             obtain ⟨hk4, ho4⟩ := HP.out v4 w4 hown4 hgr4
             have HK4 := Lib.hid hk4; have HO4 := Lib.hid ho4
             obtain ⟨r0, r1, r2, r3⟩ := FX.out w4 hk4
             clear hown4 hgr4 hk4 ho4)
          | (go_at_call 19
             refine (cput_any v4 _ xa fa fs' _ w.heap.size f1 (Nat.le_trans hwr (Nat.le_trans hw3 HK4.out.1.size)) HO4.out (by simp; omega) hI.2.1).mono ?_
             rintro e w5 ⟨v5, rfl, ho5, hk5⟩
             have HK5 := Lib.hid (HK4.out.trans hk5); have HO5 := Lib.hid ho5
             obtain ⟨t0, t1, t2, t3⟩ := FX.out w5 (HK4.out.trans hk5)
             clear ho5 hk5))
        clear p0 p1 p2 p3 r0 r1 r2 r3 t0 t1 t2 t3 wq A0 A1 A2 A3 A4 A5 HP
        have a5x := HK5.out.block QX.out (by decide)
        have a5f := HK5.out.block QF.out (by decide)
        have s0 := cell_of_row w5 _ 2 _ _ _ a5x
        have s1 := cell_of_row w5 _ 3 _ _ _ a5f
        simp at s0 s1
        clear a5x a5f
        have hw5 := HK5.out.1.size
        have hlc : (cput (encAll (List.take k L) ++ [UInt8.ofNat q]) xa fa fs').length ≤ 5010 := by
          unfold cput; split
          · rw [List.length_append, List.length_append, putZ_length, List.length_singleton]; omega
          · rw [List.length_append, List.length_singleton]; omega
        have hEOK : encOk ⟨(q : Int), xa, xb⟩ = (fitsZ xa fa fs' && fitsZ xb fb false) := by
          unfold encOk
          simp only [HFF.out]
          rw [decide_eq_true hop.1, decide_eq_true hop.2]; rfl
        have HEOK := Lib.hid hEOK
        clear hEOK
        have hxl : (⟨(q : Int), xa, xb⟩ : Ins) ∈ L := HX.out ▸ List.getElem_mem hkl
        cases hf1 : fitsZ xa fa fs'
        · have HE0 := Lib.hid (show encOk ⟨(q : Int), xa, xb⟩ = false by rw [HEOK.out, hf1]; rfl)
          clear hxl
          go_wp2_with fail
          refine (cput_any v5 _ xb fb false _ w.heap.size f2 (by omega) HO5.out (by omega) hI.2.2).mono ?_
          rintro e w6 ⟨v6, rfl, ho6, hk6⟩
          have HK6 := Lib.hid (HK5.out.trans hk6); clear ho6 hk6
          go_wp2_with fail
          exact bodyPost_ret (results_tmp2 Tryd.results9 _ _ _) rfl (EncPost.no (HX.out ▸ List.getElem_mem hkl) HE0.out (HGk.out.trans ((G3.out.mono hwr).trans HK6.out.1)))
        · cases hf2 : fitsZ xb fb false
          · have HE0 := Lib.hid (show encOk ⟨(q : Int), xa, xb⟩ = false by rw [HEOK.out, hf1, hf2]; rfl)
            clear hxl
            go_wp2_with fail
            refine (cput_any v5 _ xb fb false _ w.heap.size f2 (by omega) HO5.out (by omega) hI.2.2).mono ?_
            rintro e w6 ⟨v6, rfl, ho6, hk6⟩
            have HK6 := Lib.hid (HK5.out.trans hk6); clear ho6 hk6
            rw [hf2]
            go_wp2_with fail
            exact bodyPost_ret (results_tmp2 Tryd.results9 _ _ _) rfl (EncPost.no (HX.out ▸ List.getElem_mem hkl) HE0.out (HGk.out.trans ((G3.out.mono hwr).trans HK6.out.1)))
          · have HE1 := Lib.hid (show encOk ⟨(q : Int), xa, xb⟩ = true by rw [HEOK.out, hf1, hf2]; rfl)
            have HEB := Lib.hid (show cput (cput (encAll (L.take k) ++ [UInt8.ofNat q]) xa fa fs') xb fb false = encAll (L.take (k + 1)) by
              rw [ES.out]; unfold cput encB; rw [if_pos hf1, if_pos hf2]; simp only [HFF.out, Int.toNat_natCast]; simp)
            clear hxl
            go_wp2_with fail
            refine (cput_any v5 _ xb fb false _ w.heap.size f2 (by omega) HO5.out (by omega) hI.2.2).mono ?_
            rintro e w6 ⟨v6, rfl, ho6, hk6⟩
            rw [HEB.out] at ho6
            have HK6 := Lib.hid (HK5.out.trans hk6); have HO6 := Lib.hid ho6; clear ho6 hk6
            rw [hf2]
            go_wp2_with fail
            go_roundg (n - (k + 1))
            case measure => rw [HK.out]; omega
            case rel => exact ⟨k + 1, rfl, by omega, by go_num, HO6.out, by rw [AS.out, HOK.out, HE1.out]; rfl, HGk.out.trans ((G3.out.mono hwr).trans HK6.out.1), HK6.out.block ((G3.out.block bA hba).trans HQ.out) (by decide)⟩
      · have HE0 := Lib.hid (show encOk ⟨xo, xa, xb⟩ = false by
          unfold encOk
          by_cases h0 : 0 ≤ xo
          · rw [decide_eq_false (p := xo < 20) (by show ¬ xo < 20; omega), Bool.and_false, Bool.false_and]
          · rw [decide_eq_false (p := 0 ≤ xo) h0]; rfl)
        have hc : xo < 0 ∨ 20 ≤ xo := by omega
        have hwr := HGk.out.size
        rcases hc with hc | hc
        all_goals
          go_wp2_with fail
          exact bodyPost_ret (results_tmp2 Tryd.results9 _ _ _) rfl (EncPost.no (HX.out ▸ List.getElem_mem hkl) HE0.out (by repeat (first | with_reducible exact Below.refl _ _ | ((with_reducible refine Below.setCell ?_ ?_ _); rotate_left; focus (first | (simp; done) | (simp; omega) | omega)) | ((with_reducible refine Below.alloc ?_ ?_ _); rotate_left; focus (first | (simp; done) | (simp; omega) | omega)) | (with_reducible refine Below.drew ?_) | ((with_reducible refine Below.trans ?_ (Below.mono HGk.out ?_)); rotate_left; focus (first | (simp; done) | (simp; omega) | omega)))))
    · obtain rfl : k = n := by omega
      go_wp2_with fail
      exact bodyPost_ret (results_tmp2 Tryd.results9 _ _ _) rfl (EncPost.yes (by have := HOK.out; rwa [List.take_of_length_le (by rw [HN.out]; omega)] at this) (by have := HBk.out; rwa [List.take_of_length_le (by rw [HN.out]; omega)] at this) HGk.out)
end Go.Proofs.YtnajgpefmknmpaaDoor
