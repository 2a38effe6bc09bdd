/- The document's text of instructions. -/
import Derived.Test.YtnajgpefmknmpaaDoorCodeRA
import Derived.Test.YtnajgpefmknmpaaDoorCodeU
namespace Go.Proofs.YtnajgpefmknmpaaDoor
open Go.RowKit
set_option linter.unusedVariables false
theorem str_lit (a : List UInt8) (c : UInt8) : ((⟨a.toArray⟩ : ByteArray) ++ ⟨#[c]⟩) = ⟨(a ++ [c]).toArray⟩ := str_append a [c]
theorem lineS (k : Nat) (op a b : Int) : lineL k ⟨op, a, b⟩ = Lib.itoa (k : Int) ++ ([32] ++ ((fmOf op).name ++ ((if 0 < (fmOf op).a then [32] ++ Lib.itoa a else []) ++ ((if 0 < (fmOf op).b then [32] ++ Lib.itoa b else []) ++ [10])))) := by
  unfold lineL wordsL
  rw [show ([Lib.itoa (k : Int), (fmOf op).name] : List (List UInt8)) = Lib.itoa (k : Int) :: [(fmOf op).name] from rfl]
  split <;> split <;> simp [Lib.join_cons, Lib.joinTail]
def RTextPost (l : List UInt8) (w : World) (e : Ending) (w' : World) : Prop := e = .returned (.tuple #[.string ⟨(textM l).1.toArray⟩, .int .i64 (textM l).2]) ∧ Below w.heap.size w w'
set_option maxRecDepth 100000 in
set_option maxHeartbeats 2000000 in
theorem rtextall_any (v : Value) (l : List UInt8) (w : World) (h : BytesAt w v l) (hl : l.length ≤ 2000) :
    Calls Tryd.prog 16 #[v] w (RTextPost l w) := by
  have H := Lib.hid h
  obtain ⟨a, cap, rfl, hcap, hmx, -, -⟩ := h
  generalize hn : l.length = n at *
  have HN := Lib.hid hn; clear hn
  go_enter Tryd.func16, Tryd.ntmps16
  go_wp2_with fail
  go_loopg [4, 5] n (fun g s p wr => ∃ (f k : Nat) (acc : List UInt8), g = f ∧ k ≤ n ∧ n - k ≤ f ∧ s = .string ⟨acc.toArray⟩ ∧ p = .int .i64 k ∧ textG f l k acc = textM l ∧ acc.length ≤ 100 * k ∧ Below w.heap.size w wr)
  case atStart => exact ⟨n, 0, [], rfl, by omega, by omega, rfl, rfl, by unfold textM; rw [HN.out], by simp, Below.refl _ _⟩
  case round =>
    obtain ⟨f, k, acc, hgk, hk, hkf, rfl, rfl, htx, hacc, hg⟩ := hrel
    have HGk := Lib.hid hg; have HK := Lib.hid hgk; have HTX := Lib.hid htx; clear hg hgk htx
    by_cases hlt : k < n
    · have D := Lib.hid (rdec_any (.slice a n cap) l (k : Int) wr (H.out.later HGk.out) (by rw [HN.out]; omega))
      have hwr := HGk.out.size
      obtain ⟨f', rfl⟩ : ∃ f', f = f' + 1 := ⟨f - 1, by omega⟩
      have hkl : k < l.length := by rw [HN.out]; exact hlt
      by_cases he : (decI l k).2.2 = 0
      · obtain ⟨c, hc20, -, ho, hp, hple, -, -⟩ := dec_ok hkl he
        obtain ⟨ra1, ra2, rb1, rb2⟩ := dec_range hkl he
        have ST := Lib.hid (HTX.out.symm.trans (textG_step hkl he))
        rw [show decI l k = ((decI l k).1, (decI l k).2.1, (decI l k).2.2) from rfl, he, hp] at D
        rw [hp] at ST
        simp only [Int.toNat_natCast] at ST
        generalize (decI l k).1 = x at *
        obtain ⟨xo, xa, xb⟩ := x
        simp only at ho ra1 ra2 rb1 rb2
        subst ho
        obtain ⟨f1, f2, f3⟩ := fm_all (c : Int)
        have D2 := Lib.hid (show Calls Tryd.prog 14 #[.slice a n cap, .int .i64 (k : Int)] wr fun e w' => e = .returned (.tuple #[.agg #[.int .i64 (c : Int), .int .i64 xa, .int .i64 xb], .int .i64 ((k + 1 + (fmOf c).a + (fmOf c).b : Nat) : Int), .int .i64 0]) ∧ Below wr.heap.size wr w' from D.out)
        have hfl := fm_name_len (c : Int)
        have lk := Lib.itoa_length_le (k : Int) (by omega) (by omega)
        have lxa := Lib.itoa_length_le xa (by omega) (by omega)
        have lxb := Lib.itoa_length_le xb (by omega) (by omega)
        have LL := Lib.hid (lineL_le k ⟨(c : Int), xa, xb⟩ (by omega) ⟨ra1, ra2⟩ ⟨rb1, rb2⟩)
        have NM := Lib.hid (fun W => name_any (c : Int) W)
        clear D hp he
        generalize hff : fmOf (c : Int) = fm at *
        have HFF := Lib.hid hff; clear hff
        obtain ⟨fn, fa, fs', fb⟩ := fm
        generalize hz : aS ⟨fn, fa, fs', fb⟩ = z at *
        have HZ := Lib.hid (show (if fs' then -(fa : Int) else (fa : Int)) = z from hz)
        clear hz
        simp only at f1 f2 f3 NM D2 ST hple hfl
        generalize hPP : k + 1 + fa + fb = P at *
        have HPP := Lib.hid hPP; clear hPP
        go_wp2_with (go_at_call 14; refine D2.out.mono ?_; rintro e w3 ⟨rfl, hg3⟩; have HG3 := Lib.hid hg3; clear hg3)
        have g4 : Below w3.heap.size w3 (w3.alloc (.cells #[.int .i64 (c : Int), .int .i64 xa, .int .i64 xb] 26)) := (Below.refl _ _).alloc (Nat.le_refl _) _
        have qx : (w3.alloc (.cells #[.int .i64 (c : Int), .int .i64 xa, .int .i64 xb] 26)).heap[w3.heap.size]? = some (.cells #[.int .i64 (c : Int), .int .i64 xa, .int .i64 xb] 26 (0, 0)) := heap_alloc_new w3 _
        generalize w3.alloc (.cells #[.int .i64 (c : Int), .int .i64 xa, .int .i64 xb] 26) = w4 at *
        have hw34 := g4.size
        have G4 := Lib.hid (HG3.out.trans (g4.mono HG3.out.size))
        generalize w3.heap.size = bx at *
        have hbx : bx < w4.heap.size := lt_of_cell (cell_of_row w4 _ 0 _ _ _ qx)
        have FX := Lib.hid (show ∀ W, Below w4.heap.size w4 W → W.cell? ⟨bx, 1, none⟩ = some (.int .i64 xa) ∧ W.cell? ⟨bx, 2, none⟩ = some (.int .i64 xb) from fun W hW => by
          have a1 := (hW.block bx hbx).trans qx
          exact ⟨cell_of_row W _ _ _ _ _ a1, cell_of_row W _ _ _ _ _ a1⟩)
        have RT := Lib.hid (show ∀ (z : Int), -100000 ≤ z → z ≤ 100000 → ∀ W, Below w4.heap.size w4 W → Calls Tryd.prog 29 #[.int .i64 z] W fun e w' => e = .returned (.string ⟨(Lib.itoa z).toArray⟩) ∧ Below w4.heap.size w4 w' from fun z z1 z2 W hW => (rtext_any z (by omega) (by omega) W).mono (by rintro e w' ⟨rfl, h⟩; exact ⟨rfl, hW.trans (h.mono hW.size)⟩))
        clear g4 qx
        refine (NM.out _).mono ?_
        rintro e wx ⟨rfl, hwx⟩
        obtain rfl := hwx.symm
        clear hwx
        go_wp2_with fail
        refine (RT.out k (by omega) (by omega) _ (Below.refl _ _)).mono ?_
        rintro e w5 ⟨rfl, hg5⟩
        obtain ⟨p1, p2⟩ := FX.out w5 hg5
        have hs5 := hg5.size
        have hbx5 : bx < w5.heap.size := lt_of_cell p1
        have G5 := Lib.hid hg5
        clear hg5
        by_cases ha : 0 < fa
        · by_cases hb : 0 < fb
          · have za : (z == 0) = false := by rw [beq_eq_false_iff_ne]; have := HZ.out; split at this <;> omega
            have zb : (z != 0) = true := by unfold bne; rw [za]; rfl
            have ya : ((fb : Int) == 0) = false := by rw [beq_eq_false_iff_ne]; omega
            have yb : ((fb : Int) != 0) = true := by unfold bne; rw [ya]; rfl
            go_wp2_with fail
            refine (RT.out xa (by omega) (by omega) _ G5.out).mono ?_
            rintro e w6 ⟨rfl, hg6⟩
            clear p1 p2
            obtain ⟨p1, p2⟩ := FX.out w6 hg6
            have hs6 := hg6.size
            have hbx6 : bx < w6.heap.size := lt_of_cell p1
            have G6 := Lib.hid hg6
            clear hg6
            go_wp2_with fail
            refine (RT.out xb (by omega) (by omega) _ G6.out).mono ?_
            rintro e w7 ⟨rfl, hg7⟩
            clear p1 p2
            obtain ⟨p1, p2⟩ := FX.out w7 hg7
            have hs7 := hg7.size
            have hbx7 : bx < w7.heap.size := lt_of_cell p1
            have G7 := Lib.hid hg7
            clear hg7
            go_wp2_with fail
            have HL := lineS k (c : Int) xa xb
            rw [HFF.out] at HL
            simp only at HL
            rw [if_pos (by omega), if_pos (by omega)] at HL
            go_roundg f'
            case measure => rw [HK.out]; omega
            case rel => exact ⟨f', P, _, rfl, by rw [← HN.out]; exact hple, by have := HPP.out; omega, (by apply congrArg Value.string; rw [HL]; simp only [str_append]; simp only [List.append_assoc, List.nil_append, List.cons_append]), rfl, ST.out.symm, by have := LL.out; have := HPP.out; rw [List.length_append]; omega, ((HGk.out.trans (G4.out.mono hwr)).trans (G7.out.mono (by have := G4.out.size; omega)))⟩
          · have za : (z == 0) = false := by rw [beq_eq_false_iff_ne]; have := HZ.out; split at this <;> omega
            have zb : (z != 0) = true := by unfold bne; rw [za]; rfl
            have ya : ((fb : Int) == 0) = true := by rw [beq_iff_eq]; omega
            have yb : ((fb : Int) != 0) = false := by unfold bne; rw [ya]; rfl
            go_wp2_with fail
            refine (RT.out xa (by omega) (by omega) _ G5.out).mono ?_
            rintro e w6 ⟨rfl, hg6⟩
            clear p1 p2
            obtain ⟨p1, p2⟩ := FX.out w6 hg6
            have hs6 := hg6.size
            have hbx6 : bx < w6.heap.size := lt_of_cell p1
            have G6 := Lib.hid hg6
            clear hg6
            go_wp2_with fail
            have HL := lineS k (c : Int) xa xb
            rw [HFF.out] at HL
            simp only at HL
            rw [if_pos (by omega), if_neg (by omega)] at HL
            go_roundg f'
            case measure => rw [HK.out]; omega
            case rel => exact ⟨f', P, _, rfl, by rw [← HN.out]; exact hple, by have := HPP.out; omega, (by apply congrArg Value.string; rw [HL]; simp only [str_append]; simp only [List.append_assoc, List.nil_append, List.cons_append]), rfl, ST.out.symm, by have := LL.out; have := HPP.out; rw [List.length_append]; omega, ((HGk.out.trans (G4.out.mono hwr)).trans (G6.out.mono (by have := G4.out.size; omega)))⟩
        · by_cases hb : 0 < fb
          · have za : (z == 0) = true := by rw [beq_iff_eq]; have := HZ.out; split at this <;> omega
            have zb : (z != 0) = false := by unfold bne; rw [za]; rfl
            have ya : ((fb : Int) == 0) = false := by rw [beq_eq_false_iff_ne]; omega
            have yb : ((fb : Int) != 0) = true := by unfold bne; rw [ya]; rfl
            go_wp2_with fail
            refine (RT.out xb (by omega) (by omega) _ G5.out).mono ?_
            rintro e w6 ⟨rfl, hg6⟩
            clear p1 p2
            obtain ⟨p1, p2⟩ := FX.out w6 hg6
            have hs6 := hg6.size
            have hbx6 : bx < w6.heap.size := lt_of_cell p1
            have G6 := Lib.hid hg6
            clear hg6
            go_wp2_with fail
            have HL := lineS k (c : Int) xa xb
            rw [HFF.out] at HL
            simp only at HL
            rw [if_neg (by omega), if_pos (by omega)] at HL
            go_roundg f'
            case measure => rw [HK.out]; omega
            case rel => exact ⟨f', P, _, rfl, by rw [← HN.out]; exact hple, by have := HPP.out; omega, (by apply congrArg Value.string; rw [HL]; simp only [str_append]; simp only [List.append_assoc, List.nil_append, List.cons_append]), rfl, ST.out.symm, by have := LL.out; have := HPP.out; rw [List.length_append]; omega, ((HGk.out.trans (G4.out.mono hwr)).trans (G6.out.mono (by have := G4.out.size; omega)))⟩
          · have za : (z == 0) = true := by rw [beq_iff_eq]; have := HZ.out; split at this <;> omega
            have zb : (z != 0) = false := by unfold bne; rw [za]; rfl
            have ya : ((fb : Int) == 0) = true := by rw [beq_iff_eq]; omega
            have yb : ((fb : Int) != 0) = false := by unfold bne; rw [ya]; rfl
            go_wp2_with fail
            have HL := lineS k (c : Int) xa xb
            rw [HFF.out] at HL
            simp only at HL
            rw [if_neg (by omega), if_neg (by omega)] at HL
            go_roundg f'
            case measure => rw [HK.out]; omega
            case rel => exact ⟨f', P, _, rfl, by rw [← HN.out]; exact hple, by have := HPP.out; omega, (by apply congrArg Value.string; rw [HL]; simp only [str_append]; simp only [List.append_assoc, List.nil_append, List.cons_append]), rfl, ST.out.symm, by have := LL.out; have := HPP.out; rw [List.length_append]; omega, ((HGk.out.trans (G4.out.mono hwr)).trans (G5.out.mono (by have := G4.out.size; omega)))⟩
      · have D2 := Lib.hid (show Calls Tryd.prog 14 #[.slice a n cap, .int .i64 (k : Int)] wr fun e w' => e = .returned (.tuple #[.agg #[.int .i64 (decI l k).1.op, .int .i64 (decI l k).1.a, .int .i64 (decI l k).1.b], .int .i64 (decI l k).2.1, .int .i64 (decI l k).2.2]) ∧ Below wr.heap.size wr w' from D.out)
        have ST := Lib.hid (HTX.out.symm.trans (textG_bad hkl he))
        clear D
        have he' : ((decI l k).2.2 == 0) = false := by simpa using he
        have he2 : ((decI l k).2.2 != 0) = true := by simpa using he
        generalize (decI l k).2.2 = ee at *
        generalize (decI l k).2.1 = pp at *
        generalize (decI l k).1 = x at *
        clear he
        go_wp2_with (go_at_call 14; refine D2.out.mono ?_; rintro e w3 ⟨rfl, hg3⟩; have HG3 := Lib.hid (HGk.out.trans (hg3.mono hwr)); have hs3 := HG3.out.size; clear hg3)
        exact bodyPost_ret (results_tmp2 Tryd.results16 _ _ _) rfl ⟨by rw [ST.out]; rfl, by repeat (first | with_reducible exact Below.refl _ _ | ((with_reducible refine Below.setCell ?_ ?_ _); rotate_left; focus (first | (simp; done) | (simp; omega) | omega)) | ((with_reducible refine Below.alloc ?_ ?_ _); rotate_left; focus (first | (simp; done) | (simp; omega) | omega)) | (with_reducible refine Below.drew ?_) | ((with_reducible refine Below.trans ?_ (Below.mono HG3.out ?_)); rotate_left; focus (first | (simp; done) | (simp; omega) | omega)))⟩
    · obtain rfl : k = n := by omega
      have ST := Lib.hid (HTX.out.symm.trans (textG_end (by rw [HN.out]; omega)))
      go_wp2_with fail
      exact bodyPost_ret (results_tmp2 Tryd.results16 _ _ _) rfl ⟨by rw [ST.out]; rfl, HGk.out⟩
end Go.Proofs.YtnajgpefmknmpaaDoor
