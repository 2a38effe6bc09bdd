/- The program's Check. -/
import Derived.Test.YtnajgpefmknmpaaDoorChkQ
import Derived.Test.YtnajgpefmknmpaaDoorChkC
namespace Go.Proofs.YtnajgpefmknmpaaDoor
open Go.RowKit Go.Maps
set_option linter.unusedVariables false
def CheckPost (l : List UInt8) (W : Wd) (w : World) (e : Ending) (w' : World) : Prop := e = .returned (.tuple #[.int .i64 (checkM l W).1, .int .i64 (checkM l W).2]) ∧ Below w.heap.size w w'
/-- the checker as Check makes it -/
def madeW (w : World) (v : Value) (n : Nat) (W : Wd) : World :=
  ((((w.alloc (.cells #[.int .i64 0, .int .i64 (n : Int), .int .i64 0, .bool false] 82)).alloc (.map #[] 0)).alloc (.map #[] 0)).alloc (.map #[] 0)).alloc
    (.cells #[v, .int .i64 W.lits, .int .i64 W.slots, .int .i64 W.fields, .slice (some ⟨w.heap.size, 0, none⟩) 1 1, .map (some (w.heap.size + 1)), .map (some (w.heap.size + 1 + 1)), .map (some (w.heap.size + 1 + 1 + 1)), .int .i64 0, .int .i64 0] 86)
def madeQ (w : World) : Pl := ⟨w.heap.size + 1 + 1 + 1 + 1, w.heap.size + 1, w.heap.size + 1 + 1, w.heap.size + 1 + 1 + 1⟩
theorem made_below (w : World) (v : Value) (n : Nat) (W : Wd) : Below w.heap.size w (madeW w v n W) :=
  (((((Below.refl _ _).alloc (Nat.le_refl _) _).alloc (by simp) _).alloc (by simp; omega) _).alloc (by simp; omega) _).alloc (by simp; omega) _
theorem made_at (w : World) (v : Value) (l : List UInt8) (W : Wd) : CkAt (madeW w v l.length W) w.heap.size (madeQ w) v W (ck0 l) (.slice (some ⟨w.heap.size, 0, none⟩) 1 1) 0 := by
  have al : ∀ (u : World) (o : Obj), Below u.heap.size u (u.alloc o) := fun u o => (Below.refl _ _).alloc (Nat.le_refl _) _
  have m1 : MapI ((w.alloc (.cells #[.int .i64 0, .int .i64 (l.length : Int), .int .i64 0, .bool false] 82)).alloc (.map #[] 0)) (w.heap.size + 1) (fun _ => none) 0 := by
    have := MapI.made (w.alloc (.cells #[.int .i64 0, .int .i64 (l.length : Int), .int .i64 0, .bool false] 82))
    simpa using this
  have m2 : MapI (((w.alloc (.cells #[.int .i64 0, .int .i64 (l.length : Int), .int .i64 0, .bool false] 82)).alloc (.map #[] 0)).alloc (.map #[] 0)) (w.heap.size + 1 + 1) (fun _ => none) 0 := by
    have := MapI.made ((w.alloc (.cells #[.int .i64 0, .int .i64 (l.length : Int), .int .i64 0, .bool false] 82)).alloc (.map #[] 0))
    simpa using this
  have m3 : MapI ((((w.alloc (.cells #[.int .i64 0, .int .i64 (l.length : Int), .int .i64 0, .bool false] 82)).alloc (.map #[] 0)).alloc (.map #[] 0)).alloc (.map #[] 0)) (w.heap.size + 1 + 1 + 1) (fun _ => none) 0 := by
    have := MapI.made (((w.alloc (.cells #[.int .i64 0, .int .i64 (l.length : Int), .int .i64 0, .bool false] 82)).alloc (.map #[] 0)).alloc (.map #[] 0))
    simpa using this
  have o1 : (w.alloc (.cells #[.int .i64 0, .int .i64 (l.length : Int), .int .i64 0, .bool false] 82)).ownsRow w.heap.size 82 4 (.slice (some ⟨w.heap.size, 0, none⟩) 1 1) 1 [.int .i64 0, .int .i64 (l.length : Int), .int .i64 0, .bool false] :=
    ⟨rfl, .inr ⟨w.heap.size, 1, #[.int .i64 0, .int .i64 (l.length : Int), .int .i64 0, .bool false], rfl, Nat.le_refl _, heap_alloc_new w _, Nat.le_refl _, by unfold maxLen; omega, rfl, rfl⟩⟩
  refine ⟨?_, ?_, ?_, ?_, ?_, ?_, ?_, ?_, ?_, ?_, ?_, ?_⟩
  · have := heap_alloc_new ((((w.alloc (.cells #[.int .i64 0, .int .i64 (l.length : Int), .int .i64 0, .bool false] 82)).alloc (.map #[] 0)).alloc (.map #[] 0)).alloc (.map #[] 0))
      (.cells #[v, .int .i64 W.lits, .int .i64 W.slots, .int .i64 W.fields, .slice (some ⟨w.heap.size, 0, none⟩) 1 1, .map (some (w.heap.size + 1)), .map (some (w.heap.size + 1 + 1)), .map (some (w.heap.size + 1 + 1 + 1)), .int .i64 0, .int .i64 0] 86)
    simpa [madeW, madeQ, ckC, ck0] using this
  · exact ((((o1.alloc _).alloc _).alloc _).alloc _)
  · exact ((m1.later (al _ _)).later (al _ _)).later (al _ _)
  · exact (m2.later (al _ _)).later (al _ _)
  · exact m3.later (al _ _)
  all_goals (unfold madeQ; simp only; omega)
set_option maxRecDepth 100000 in
set_option maxHeartbeats 4000000 in
theorem check_any (v : Value) (l : List UInt8) (lits slots fields : Int) (w : World) (h : BytesAt w v l) (hl : l.length ≤ 2000) :
    Calls Tryd.prog 17 #[v, .int .i64 lits, .int .i64 slots, .int .i64 fields] w (CheckPost l ⟨lits, slots, fields⟩ w) := by
  have H := Lib.hid h
  have HBV := Lib.hid (show l ≠ [] → ∀ b o len cap, v = .slice (some ⟨b, o, none⟩) len cap → b < w.heap.size from fun hne b o len cap hv => by
    obtain ⟨b', o', cap', hv', h1, hc⟩ := h.shape hne
    rw [hv] at hv'
    injection hv' with h1
    injection h1 with h1
    injection h1 with h1
    subst h1
    exact lt_of_cell ((hc 0 (List.length_pos_iff.2 hne)).trans (List.getElem?_eq_getElem (by rw [Lib.byteCells_length]; exact List.length_pos_iff.2 hne))))
  obtain ⟨a, cap, hv, h1, h2, -, -⟩ := h
  subst hv
  have hmm := @run_makeMap Tryd.prog
  generalize hln : l.length = n at *
  have HL := Lib.hid hln; clear hln
  go_enter Tryd.func17, Tryd.ntmps17
  go_wp2_with fail
  have W1 := Lib.hid (made_at w (.slice a n cap) l ⟨lits, slots, fields⟩)
  have G1 := Lib.hid (made_below w (.slice a n cap) l.length ⟨lits, slots, fields⟩)
  have QH := Lib.hid (show (madeQ w).h = w.heap.size + 1 + 1 + 1 + 1 from rfl)
  have hQH : w.heap.size ≤ (madeQ w).h := by show w.heap.size ≤ w.heap.size + 1 + 1 + 1 + 1; omega
  change Code.wp _ _ _ _ (madeW w (.slice a n cap) n ⟨lits, slots, fields⟩)
  rw [HL.out] at W1 G1
  generalize madeW w (.slice a n cap) n ⟨lits, slots, fields⟩ = w1 at *
  rw [← QH.out]
  generalize hq : madeQ w = q at *
  clear hq
  generalize hW : (⟨lits, slots, fields⟩ : Wd) = W at *
  have HW := Lib.hid hW; clear hW hmm
  have hw1 := G1.out.size
  generalize hB : w.heap.size = B at *
  have HB := Lib.hid hB; clear hB
  generalize hR : partsG l W (n + 1) 0 (ck0 l) = R at *
  have HR := Lib.hid hR; clear hR
  go_loopg [11] (n + 1) (fun gg s11 wr => ∃ (f k : Nat) (c' : Ck) (pv' : Value) (M : Nat), gg = f ∧ s11 = .int .i64 k ∧ partsG l W f k c' = R ∧ wt (c'.parts.drop k) ≤ f ∧ k + f ≤ n + 1 ∧ k ≤ c'.parts.length ∧ CkAt wr B q (.slice a n cap) W c' pv' M ∧ M ≤ k * n ∧ Inv l c' 65536 ∧ Below B w1 wr)
  case atStart => exact ⟨n + 1, 0, ck0 l, _, 0, rfl, rfl, HR.out, by show (l.length - 0 + 1) + 0 ≤ n + 1; rw [HL.out]; omega, by omega, Nat.zero_le _, W1.out, by omega, ck0_inv l, Below.refl _ _⟩
  case round =>
    obtain ⟨f, k, c', pv', M, hgf, rfl, hR, hwt, hkf, hkl, hC, hM, hI, hBl⟩ := hrel
    have HGF := Lib.hid hgf; have HRR := Lib.hid hR; have HC := Lib.hid hC; have HI := Lib.hid hI; have HBL := Lib.hid hBl
    have c4 : wr.cell? ⟨q.h, 4, none⟩ = some pv' := cell_of_row wr _ 4 _ _ _ hC.cells
    obtain ⟨pa, pc, rfl⟩ := own_shape hC.row
    have hwl := wt_len (c'.parts.drop k)
    rw [List.length_drop] at hwl
    have hM2 : M ≤ 2001 * 2000 := Nat.le_trans hM (Nat.mul_le_mul (by omega) (by omega))
    have hhl := hC.lt
    clear hgf hR hC hI hBl
    generalize hpl : c'.parts.length = np at *
    have HPL := Lib.hid hpl; clear hpl
    by_cases hlt : k < np
    · obtain ⟨f', rfl⟩ : ∃ f', f = f' + 1 := ⟨f - 1, by omega⟩
      have hkp : k < c'.parts.length := by rw [HPL.out]; exact hlt
      have hP := HI.out.parts _ (part_in hkp)
      have LY := Lib.hid (lay_any l B q (.slice a n cap) (.slice pa np pc) W c' k M wr (H.out.keep HBV.out ((HB.out ▸ G1.out : Below B w w1).trans HBL.out)) (by rw [HL.out]; exact hl) HC.out hkp (by rw [HPL.out]; omega) ⟨hP.1, hP.2.1⟩ (by omega) HBV.out)
      have HRS := Lib.hid (HRR.out.symm.trans (partsG_step hkp))
      have LI := Lib.hid (layM_inv (W := W) HI.out hkp)
      clear hP hkp
      go_wp2_with fail
      refine LY.out.mono ?_
      rintro en w2 ⟨pv2, M2, rfl, hC2, hM22, hB2⟩
      obtain ⟨li1, li2, li3⟩ := LI.out
      have HC2 := Lib.hid hC2; have HB2 := Lib.hid hB2; have HI2 := Lib.hid li1; have HL3 := Lib.hid li3; have HL2 := Lib.hid li2
      clear hC2 hB2 li1 li2 li3
      have hMk : (k + 1) * n = k * n + n := Nat.succ_mul k n
      rw [HL.out] at hM22
      go_wp2_with fail
      go_roundg f'
      case measure => rw [HGF.out]; omega
      case rel => exact ⟨f', k + 1, _, pv2, M2, rfl, by go_num, HRS.out.symm, by have := HL3.out; omega, by omega, by have := HL2.out; have := HPL.out; omega, HC2.out, by omega, HI2.out, HBL.out.trans HB2.out⟩
    · have hRE : R = c' := HRR.out.symm.trans (partsG_end (by have := HPL.out; omega))
      have HCM := Lib.hid (show checkM l W = if (if R.e = 0 then runM l (4 * l.length + 4) R else R).e ≠ 0 then (0, (if R.e = 0 then runM l (4 * l.length + 4) R else R).e) else ((if R.e = 0 then runM l (4 * l.length + 4) R else R).most, 0) by
        unfold checkM checkC; rw [HL.out, HR.out])
      rw [hRE] at HCM
      have c9 : wr.cell? ⟨q.h, 9, none⟩ = some (.int .i64 c'.e) := cell_of_row wr _ 9 _ _ _ HC.out.cells
      have c8 : wr.cell? ⟨q.h, 8, none⟩ = some (.int .i64 c'.most) := cell_of_row wr _ 8 _ _ _ HC.out.cells
      clear hRE
      by_cases he : c'.e = 0
      · rw [if_pos he] at HCM
        have e1 : (c'.e == 0) = true := by simpa using he
        have RN := Lib.hid (run_any l B q (.slice a n cap) (.slice pa np pc) W c' (4 * l.length + 4) M wr (H.out.keep HBV.out ((HB.out ▸ G1.out : Below B w w1).trans HBL.out)) (by rw [HL.out]; exact hl) HC.out HI.out (by rw [HPL.out]; omega) (by omega) rfl HBV.out)
        clear he
        go_wp2_with fail
        refine RN.out.mono ?_
        rintro en w2 ⟨rfl, hC2, hB2⟩
        clear c8 c9 e1 c4
        generalize runM l (4 * l.length + 4) c' = R2 at *
        have c9 : w2.cell? ⟨q.h, 9, none⟩ = some (.int .i64 R2.e) := cell_of_row w2 _ 9 _ _ _ hC2.cells
        have c8 : w2.cell? ⟨q.h, 8, none⟩ = some (.int .i64 R2.most) := cell_of_row w2 _ 8 _ _ _ hC2.cells
        have HB2 := Lib.hid (((HB.out ▸ G1.out : Below B w w1).trans HBL.out).trans hB2)
        clear hC2 hB2
        by_cases he2 : R2.e = 0
        · have e3 : (R2.e == 0) = true := by simpa using he2
          have e4 : (R2.e != 0) = false := by simpa using he2
          have HCF := Lib.hid (HCM.out.trans (if_neg (by simpa using he2)))
          clear he2
          go_wp2_with fail
          exact bodyPost_ret (results_tmp2 Tryd.results17 _ _ _) rfl ⟨by rw [HCF.out]; rfl, by rw [HB.out]; exact HB2.out⟩
        · have e3 : (R2.e == 0) = false := by simpa using he2
          have e4 : (R2.e != 0) = true := by simpa using he2
          have HCF := Lib.hid (HCM.out.trans (if_pos he2))
          clear he2
          go_wp2_with fail
          go_quiet (fail)
          go_wp2_with fail
          exact bodyPost_ret (results_tmp2 Tryd.results17 _ _ _) rfl ⟨by rw [HCF.out]; rfl, by rw [HB.out]; exact below_dn HB2.out _⟩
      · rw [if_neg he] at HCM
        have e3 : (c'.e == 0) = false := by simpa using he
        have e4 : (c'.e != 0) = true := by simpa using he
        have HCF := Lib.hid (HCM.out.trans (if_pos he))
        have HB2 := Lib.hid ((HB.out ▸ G1.out : Below B w w1).trans HBL.out)
        clear he
        go_wp2_with fail
        go_quiet (fail)
        go_wp2_with fail
        exact bodyPost_ret (results_tmp2 Tryd.results17 _ _ _) rfl ⟨by rw [HCF.out]; rfl, by rw [HB.out]; exact below_dn HB2.out _⟩
/-- the law's own bytes are right, and need one place -/
theorem check_law (v : Value) (w : World) (h : BytesAt w v [4, 5, 18]) : Calls Tryd.prog 17 #[v, .int .i64 0, .int .i64 0, .int .i64 0] w fun e w' => e = .returned (.tuple #[.int .i64 1, .int .i64 0]) ∧ Below w.heap.size w w' := by
  refine (check_any v [4, 5, 18] 0 0 0 w h (by decide)).mono ?_
  rintro e w' ⟨rfl, hb⟩
  exact ⟨by rw [check_awake], hb⟩
end Go.Proofs.YtnajgpefmknmpaaDoor
