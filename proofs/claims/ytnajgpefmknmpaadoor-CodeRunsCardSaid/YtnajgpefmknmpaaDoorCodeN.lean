/- The document's Encode. -/
import Derived.Test.YtnajgpefmknmpaaDoorCodeM
import Derived.Deep.Cut
import Derived.Deep.CutRange
import Derived.Deep.RegionHeld3
namespace Go.Proofs.YtnajgpefmknmpaaDoor
open Go.RowKit
set_option linter.unusedVariables false
def REncPost (L : List Ins) (w : World) (e : Ending) (w' : World) : Prop :=
  ∃ v', e = .returned (.tuple #[v', .bool (L.all encOk)]) ∧ (L.all encOk = true → OwnsB w' w.heap.size v' (encAll L)) ∧ (L.all encOk = false → v' = .slice none 0 0) ∧ Below w.heap.size w w'
theorem REncPost.no {L : List Ins} {x : Ins} {w w' : World} (hx : x ∈ L) (h : encOk x = false) (hb : Below w.heap.size w w') : REncPost L w (.returned (.tuple #[.slice none 0 0, .bool false])) w' := by
  have := enc_no hx h
  exact ⟨_, by rw [this], (fun e => by rw [this] at e; cases e), fun _ => rfl, hb⟩
theorem REncPost.yes {L : List Ins} {w w' : World} {v : Value} (h : L.all encOk = true) (ho : OwnsB w' w.heap.size v (encAll L)) (hb : Below w.heap.size w w') : REncPost L w (.returned (.tuple #[v, .bool true])) w' :=
  ⟨v, by rw [h], fun _ => ho, (fun e => by rw [h] at e; cases e), hb⟩
set_option maxRecDepth 100000 in
set_option maxHeartbeats 4000000 in
theorem rencode_any (v : Value) (L : List Ins) (w : World) (h : InsAt w v L) (hL : L.length ≤ 1000) :
    Calls Tryd.prog 10 #[v] w (REncPost L w) := by
  obtain ⟨i0, hi, hz0, hz1, hz2⟩ := info_parts byteInfo
  have H := Lib.hid h
  obtain ⟨a, cap, rfl, hcap, hmx, -⟩ := h
  generalize hn : L.length = n at *
  have HN := Lib.hid hn; clear hn
  go_enter Tryd.func10, Tryd.ntmps10
  go_wp2_with fail
  go_loopg [4, 5] n (fun g o i wr => ∃ k : Nat, g = n - k ∧ k ≤ n ∧ i = .int .i64 k ∧ OwnsB wr w.heap.size o (encAll (L.take k)) ∧ (L.take k).all encOk = true ∧ Below w.heap.size w wr)
  case atStart => exact ⟨0, rfl, by omega, rfl, World.ownsRow_nil _ _ _ _, rfl, Below.refl _ _⟩
  case round =>
    obtain ⟨k, hgk, hk, rfl, hb, hok, hg⟩ := hrel
    have HBk := Lib.hid hb; have HGk := Lib.hid hg; have HK := Lib.hid hgk; have HOK := Lib.hid hok; clear hb hg hgk hok
    by_cases hlt : k < n
    · have hne : L ≠ [] := by rintro rfl; have := HN.out; simp at this; omega
      obtain ⟨b, o, cap', hv, -, hbl0, hall⟩ := H.out.cells hne
      have hkl : k < L.length := by rw [HN.out]; exact hlt
      obtain ⟨hI, c0', c1', c2'⟩ := hall k hkl
      simp only [Value.slice.injEq] at hv
      obtain ⟨rfl, -, -⟩ := hv
      have AS := Lib.hid (all_snoc L k hkl); have ES := Lib.hid (encAll_snoc L k hkl)
      generalize hx : L[k] = x at *
      have HX := Lib.hid hx
      clear hall hx
      obtain ⟨xo, xa, xb⟩ := x
      simp only at c0' c1' c2'
      have FX := Lib.hid (show ∀ W, Below w.heap.size w W → W.cell? ⟨b, o + k * 3, none⟩ = some (.int .i64 xo) ∧ W.cell? ⟨b, o + k * 3 + 1, none⟩ = some (.int .i64 xa) ∧ W.cell? ⟨b, o + k * 3 + 2, none⟩ = some (.int .i64 xb) from fun W hW =>
        ⟨(hW.cell (p := ⟨b, _, none⟩) hbl0).trans c0', (hW.cell (p := ⟨b, _, none⟩) hbl0).trans c1', (hW.cell (p := ⟨b, _, none⟩) hbl0).trans c2'⟩)
      clear c0' c1' c2'
      have hwr := HGk.out.size
      have hnm := fm_name xo
      obtain ⟨f1, f2, f3⟩ := fm_all xo
      have HNM := Lib.hid (name_any xo)
      obtain ⟨c0, c1, c2⟩ := FX.out wr HGk.out
      generalize hff : fmOf xo = f at *
      have HFF := Lib.hid hff; clear hff
      obtain ⟨fn, fa, fs', fb⟩ := f
      simp only at f1 f2 f3 hnm
      rw [aS_eq] at HNM
      simp only at HNM
      have RP := Lib.hid (show ∀ (v1 : Value) (l1 : List UInt8) (W : World), w.heap.size ≤ W.heap.size → OwnsB W w.heap.size v1 l1 → l1.length ≤ 100000 → Calls Tryd.prog 21 #[v1, .int .i64 xa, .int .i64 (if fs' then -(fa : Int) else (fa : Int))] W fun e w' => ∃ v' l', e = .returned (.tuple #[v', .bool (fitsZ xa fa fs')]) ∧ OwnsB w' w.heap.size v' l' ∧ l'.length ≤ l1.length + 2 ∧ (fitsZ xa fa fs' = true → l' = l1 ++ putZ xa fa) ∧ Kp w.heap.size W w' from
        fun v1 l1 W hB ho hl => rput_any v1 l1 xa fa fs' W w.heap.size f1 f3 hB ho hl hI.2.1)
      have RQ := Lib.hid (show ∀ (v1 : Value) (l1 : List UInt8) (W : World), w.heap.size ≤ W.heap.size → OwnsB W w.heap.size v1 l1 → l1.length ≤ 100000 → Calls Tryd.prog 21 #[v1, .int .i64 xb, .int .i64 (fb : Int)] W fun e w' => ∃ v' l', e = .returned (.tuple #[v', .bool (fitsZ xb fb false)]) ∧ OwnsB w' w.heap.size v' l' ∧ l'.length ≤ l1.length + 2 ∧ (fitsZ xb fb false = true → l' = l1 ++ putZ xb fb) ∧ Kp w.heap.size W w' from
        fun v1 l1 W hB ho hl => rput_any v1 l1 xb fb false W w.heap.size f2 (fun _ => rfl) hB ho hl hI.2.2)
      generalize (if fs' then -(fa : Int) else (fa : Int)) = z at *
      by_cases hop : 0 ≤ xo ∧ xo < 20
      · have hne : fn ≠ [] := fun e => (hnm.1 e) hop
        have hie : fn.isEmpty = false := by simpa using hne
        clear hne hnm
        obtain ⟨q, rfl⟩ := Int.eq_ofNat_of_zero_le hop.1
        have hq20 : q < 20 := by omega
        go_upto_region 8 with (go_at_call 20; refine (HNM.out _).mono ?_; rintro e w' ⟨rfl, hw9⟩; obtain rfl := hw9.symm)
        have HB3 := Lib.hid HBk.out
        have hle : (encAll (L.take k)).length ≤ 5000 := by
          have := encAll_le (L.take k)
          have h2 : (L.take k).length ≤ 1000 := by rw [List.length_take]; have := HN.out; omega
          omega
        have wq : IntKind.u8.wrap (q : Int) = (q : Int) := by simp [IntKind.wrap, IntKind.bits, IntKind.signed]; omega
        have HP := Lib.hid (show ∀ (v4 : Value) (w4 : World), w4.ownsRow w.heap.size 5 1 v4 ((encAll (L.take k)).length + 1) (Lib.byteCells (encAll (L.take k)) ++ [Value.int .u8 (q : Int)]) → ((wr.alloc (.cells #[.int .u8 (q : Int)] 5)).drew).grownBy w4 u4.ownBlock → Kp w.heap.size wr w4 ∧ OwnsB w4 w.heap.size v4 (encAll (L.take k) ++ [UInt8.ofNat q]) from fun v4 w4 h1 h2 =>
          ⟨(Kp.refl w.heap.size wr).push (by omega) HBk.out ⟨h2.os, h2.tape, h2.output, h2.size, h2.block⟩, ownsB_of h1 (by simp [Lib.byteCells]; omega)⟩)
        have A0 := Lib.hid (show ((wr.alloc (.cells #[.int .u8 (q : Int)] 5)).drew).ownsRow w.heap.size 5 1 u4 (encAll (L.take k)).length (Lib.byteCells (encAll (L.take k))) from owns_later HBk.out (by repeat (first | with_reducible exact Below.refl _ _ | ((with_reducible refine Below.setCell ?_ ?_ _); rotate_left; focus (first | (simp; done) | (simp; omega) | omega)) | ((with_reducible refine Below.alloc ?_ ?_ _); rotate_left; focus (first | (simp; done) | (simp; omega) | omega)) | (with_reducible refine Below.drew ?_))))
        have A1 := Lib.hid (show ∀ j u, ([Value.int .u8 (q : Int)])[j]? = some u → ((wr.alloc (.cells #[.int .u8 (q : Int)] 5)).drew).cell? ((⟨wr.heap.size, 0, none⟩ : Addr).add j) = some u by
          intro j u hj
          match j, hj with
          | 0, hj => simp at hj; subst hj; simp [Addr.add])
        have A2 := Lib.hid (show ∀ u ∈ [Value.int .u8 (q : Int)], u.oneCell' = true by intro u hu; simp at hu; subst hu; rfl)
        have A3 := Lib.hid (show (encAll (L.take k)).length + 1 ≤ maxLen by unfold maxLen; omega)
        have A4 := Lib.hid (show ((encAll (L.take k)).length + 1) * 1 ≤ 140737488355328 by omega)
        have A5 := Lib.hid (show w.heap.size ≤ ((wr.alloc (.cells #[.int .u8 (q : Int)] 5)).drew).heap.size by simp; omega)
        go_region_held3 (fun w' => w'.cell? ⟨b, o + k * 3, none⟩ = some (.int .i64 (q : Int)) ∧ w'.cell? ⟨b, o + k * 3 + 1, none⟩ = some (.int .i64 xa))
          (first | exact ⟨c0, c1⟩ | exact ⟨r0, r1⟩ | exact ⟨t0, t1⟩ | ((refine (fun h => ⟨h.1, h.2.1⟩) (FX.out _ ?_)); repeat (first | with_reducible exact Below.refl _ _ | ((with_reducible refine Below.setCell ?_ ?_ _); rotate_left; focus (first | (simp; done) | (simp; omega) | omega)) | ((with_reducible refine Below.alloc ?_ ?_ _); rotate_left; focus (first | (simp; done) | (simp; omega) | omega)) | (with_reducible refine Below.drew ?_) | ((with_reducible refine Below.trans ?_ (Below.mono HGk.out ?_)); rotate_left; focus (first | (simp; done) | (simp; omega) | omega)))))
          (first
          | (refine step_append_own rfl (.tmp 32) (.tmp 39) 29 rfl w.heap.size 5 i0 (.int .u8 0) 1 1 Tryd.underlying29 hi hz0 hz1 hz2 rfl (by decide) u4 _ _ (by simp [Act.eval]) A0.out ⟨wr.heap.size, 0, none⟩ 1 1 [.int .u8 (q : Int)] (by simp [Act.eval]) rfl A1.out A2.out A3.out A4.out A5.out ?_
             intro v4 w4 hown4 hgr4
             obtain ⟨hk4, ho4⟩ := HP.out v4 w4 hown4 hgr4
             have HK4 := Lib.hid hk4; have HO4 := Lib.hid ho4
             obtain ⟨r0, r1, r2⟩ := FX.out w4 (HGk.out.trans hk4.1)
             clear hown4 hgr4 hk4 ho4)
          | (go_at_call 21
             refine (RP.out v4 _ _ (Nat.le_trans hwr HK4.out.1.size) HO4.out (by simp; omega)).mono ?_
             rintro e w5 ⟨v5, l5, rfl, ho5, hl5, he5, hk5⟩
             have HK5 := Lib.hid (HK4.out.trans hk5); have HO5 := Lib.hid ho5; have HE5 := Lib.hid he5; have HL5 := Lib.hid hl5
             obtain ⟨t0, t1, t2⟩ := FX.out w5 (HGk.out.trans (HK4.out.trans hk5).1)
             clear ho5 hk5 he5 hl5))
        clear c0 c1 c2 r0 r1 r2 t0 t1 wq A0 A1 A2 A3 A4 A5 HP
        have hw5 := HK5.out.1.size
        have hl5 : l5.length ≤ 5010 := by have := HL5.out; simp at this; omega
        clear HL5
        have hEOK : encOk ⟨(q : Int), xa, xb⟩ = (fitsZ xa fa fs' && fitsZ xb fb false) := by
          unfold encOk
          simp only [HFF.out]
          rw [decide_eq_true hop.1, decide_eq_true hop.2]; rfl
        have HEOK := Lib.hid hEOK
        clear hEOK
        cases hf1 : fitsZ xa fa fs'
        · have HE0 := Lib.hid (show encOk ⟨(q : Int), xa, xb⟩ = false by rw [HEOK.out, hf1]; rfl)
          go_wp2_with fail
          refine (RQ.out v5 l5 _ (by omega) HO5.out (by omega)).mono ?_
          rintro e w6 ⟨v6, l6, rfl, ho6, -, -, hk6⟩
          have HK6 := Lib.hid (HK5.out.trans hk6); clear ho6 hk6
          go_wp2_with fail
          exact bodyPost_ret (results_tmp2 Tryd.results10 _ _ _) rfl (REncPost.no (HX.out ▸ List.getElem_mem hkl) HE0.out (HGk.out.trans HK6.out.1))
        · cases hf2 : fitsZ xb fb false
          · have HE0 := Lib.hid (show encOk ⟨(q : Int), xa, xb⟩ = false by rw [HEOK.out, hf1, hf2]; rfl)
            go_wp2_with fail
            refine (RQ.out v5 l5 _ (by omega) HO5.out (by omega)).mono ?_
            rintro e w6 ⟨v6, l6, rfl, ho6, -, -, hk6⟩
            have HK6 := Lib.hid (HK5.out.trans hk6); clear ho6 hk6
            rw [hf2]
            go_wp2_with fail
            exact bodyPost_ret (results_tmp2 Tryd.results10 _ _ _) rfl (REncPost.no (HX.out ▸ List.getElem_mem hkl) HE0.out (HGk.out.trans HK6.out.1))
          · have HE1 := Lib.hid (show encOk ⟨(q : Int), xa, xb⟩ = true by rw [HEOK.out, hf1, hf2]; rfl)
            have HL5 := Lib.hid (HE5.out hf1)
            have HF2 := Lib.hid hf2
            go_wp2_with fail
            refine (RQ.out v5 l5 _ (by omega) HO5.out (by omega)).mono ?_
            rintro e w6 ⟨v6, l6, rfl, ho6, -, he6, hk6⟩
            rw [he6 HF2.out, HL5.out, show encAll (L.take k) ++ [UInt8.ofNat q] ++ putZ xa fa ++ putZ xb fb = encAll (L.take (k + 1)) by rw [ES.out]; unfold encB; simp only [HFF.out, Int.toNat_natCast]; simp] at ho6
            have HK6 := Lib.hid (HK5.out.trans hk6); have HO6 := Lib.hid ho6; clear ho6 hk6 he6
            rw [hf2]
            go_wp2_with fail
            go_roundg (n - (k + 1))
            case measure => rw [HK.out]; omega
            case rel => exact ⟨k + 1, rfl, by omega, by go_num, HO6.out, by rw [AS.out, HOK.out, HE1.out]; rfl, HGk.out.trans HK6.out.1⟩
      · have HE0 := Lib.hid (show encOk ⟨xo, xa, xb⟩ = false by
          unfold encOk
          by_cases h0 : 0 ≤ xo
          · rw [decide_eq_false (p := xo < 20) (by show ¬ xo < 20; omega), Bool.and_false, Bool.false_and]
          · rw [decide_eq_false (p := 0 ≤ xo) h0]; rfl)
        have hne : fn = [] := hnm.2 hop
        subst hne
        clear hnm hop
        go_wp2_with (go_at_call 20; refine (HNM.out _).mono ?_; rintro e w' ⟨rfl, hw9⟩; obtain rfl := hw9.symm)
        exact bodyPost_ret (results_tmp2 Tryd.results10 _ _ _) rfl (REncPost.no (HX.out ▸ List.getElem_mem hkl) HE0.out HGk.out)
    · obtain rfl : k = n := by omega
      go_wp2_with fail
      exact bodyPost_ret (results_tmp2 Tryd.results10 _ _ _) rfl (REncPost.yes (by have := HOK.out; rwa [List.take_of_length_le (by rw [HN.out]; omega)] at this) (by have := HBk.out; rwa [List.take_of_length_le (by rw [HN.out]; omega)] at this) HGk.out)
end Go.Proofs.YtnajgpefmknmpaaDoor
