/- The program's Text. -/
import Derived.Test.YtnajgpefmknmpaaDoorCodeT
import Derived.Deep.Cut
import Derived.Deep.CutRange
import Derived.Deep.RegionHeld3
namespace Go.Proofs.YtnajgpefmknmpaaDoor
open Go.RowKit
set_option linter.unusedVariables false
def TextPost (l : List UInt8) (w : World) (e : Ending) (w' : World) : Prop := e = .returned (.tuple #[.string ⟨(textM l).1.toArray⟩, .int .i64 (textM l).2]) ∧ Below w.heap.size w w'
set_option maxRecDepth 100000 in
set_option maxHeartbeats 4000000 in
theorem text_any (v : Value) (l : List UInt8) (w : World) (h : BytesAt w v l) (hl : l.length ≤ 2000) (hT : Lib.TabIs Tryd.prog w "internal/strconv.uint64pow10" .u64 Lib.pow10Tab) :
    Calls Tryd.prog 15 #[v] w (TextPost l w) := by
  have H := Lib.hid h
  have HT := Lib.hid hT
  obtain ⟨i1, si, sz0, sz1, sz2⟩ := info_parts strInfo
  obtain ⟨a, cap, rfl, hcap, hmx, -, -⟩ := h
  clear hT
  have F := Lib.hid (forms_any (w.alloc (.cells #[.pointer none, .slice none 0 0] 70)))
  have Z := Lib.hid (fun w' => zeroForms w')
  have hz : ((List.replicate 20 [Value.string ⟨#[]⟩, .int .i64 0, .bool false, .int .i64 0]).flatten).toArray.size = 80 := by decide
  have hf : formsC.toArray.size = 80 := by decide
  have h1 : formsC.toArray.all (·.oneCell') = true := by kernel_rfl
  have hV : formsV = .agg formsC.toArray := rfl
  have FC := Lib.hid formsC_at
  rw [hV] at F
  generalize hq : formsC.toArray = fs at hf h1 F hV FC
  clear hV hq
  generalize List.toArray (List.flatten (List.replicate 20 [Value.string ⟨#[]⟩, .int .i64 0, .bool false, .int .i64 0])) = zs at Z hz
  generalize hn : l.length = n at *
  have HN := Lib.hid hn; clear hn
  go_enter Tryd.func15, Tryd.ntmps15
  go_wp2_with (go_at_call 18; refine F.out.mono ?_; rintro e w1 ⟨rfl, hg1⟩)
  have hB1 : Lib.IsBuilder 70 5 w.heap.size w.heap.size [] w1 := isB_later (Lib.fresh_isBuilder _ _ w) hg1
  have hG1 : Below w.heap.size w w1 := ((Below.refl _ w).alloc (Nat.le_refl _) _).trans (hg1.mono (by simp))
  have HB1 := Lib.hid hB1; have HG1 := Lib.hid hG1; clear hg1 hB1 hG1
  rw [Z.out]
  have hS := run_storeCells_new (P := Tryd.prog) w1 59 zs fs (by rw [hf]; kernel_rfl) (by rw [hz, hf]) h1
  go_wp2_with fail
  clear hS h1 hz
  have q2 : (w1.alloc (.cells fs 59)).heap[w1.heap.size]? = some (.cells fs 59 (0, 0)) := heap_alloc_new w1 _
  have g2 : Below w1.heap.size w1 (w1.alloc (.cells fs 59)) := (Below.refl _ _).alloc (Nat.le_refl _) _
  generalize w1.alloc (.cells fs 59) = w2 at *
  have hbAw := isB_lt HB1.out
  generalize hbA : w1.heap.size = bA at *
  have Q2 := Lib.hid q2
  have HB2 := Lib.hid (isB_later HB1.out (hbA ▸ g2)); have HG2 := Lib.hid (HG1.out.trans (g2.mono (by rw [← hbA]; exact HG1.out.size)))
  clear q2 g2 hbA
  go_loopg [6] n (fun g p wr => ∃ (f k : Nat) (acc : List UInt8), g = f ∧ k ≤ n ∧ n - k ≤ f ∧ p = .int .i64 k ∧ textG f l k acc = textM l ∧ acc.length ≤ 100 * k ∧ Lib.IsBuilder 70 5 w.heap.size w.heap.size (Lib.byteCells acc) wr ∧ Below w.heap.size w wr ∧ wr.heap[bA]? = some (.cells fs 59 (0, 0)))
  case atStart => exact ⟨n, 0, [], rfl, by omega, by omega, rfl, by unfold textM; rw [HN.out], by simp, HB2.out, HG2.out, Q2.out⟩
  case round =>
    obtain ⟨f, k, acc, hgk, hk, hkf, rfl, htx, hacc, hb, hg, hq⟩ := hrel
    have HBk := Lib.hid hb; have HGk := Lib.hid hg; have HK := Lib.hid hgk; have HTX := Lib.hid htx; have HQ := Lib.hid hq; clear hb hg hgk htx hq
    by_cases hlt : k < n
    · have D := Lib.hid (dec_any (.slice a n cap) l (k : Int) wr (H.out.later HGk.out) (by rw [HN.out]; omega))
      have hwr := HGk.out.size
      obtain ⟨f', rfl⟩ : ∃ f', f = f' + 1 := ⟨f - 1, by omega⟩
      have hkl : k < l.length := by rw [HN.out]; exact hlt
      by_cases he : (decI l k).2.2 = 0
      · obtain ⟨c, hc20, -, ho, hp, hple, -, -⟩ := dec_ok hkl he
        obtain ⟨ra1, ra2, rb1, rb2⟩ := dec_range hkl he
        have ST := Lib.hid (HTX.out.symm.trans (textG_step hkl he))
        have LL := Lib.hid (lineL_le k (decI l k).1 (by omega) ⟨ra1, ra2⟩ ⟨rb1, rb2⟩)
        rw [show decI l k = ((decI l k).1, (decI l k).2.1, (decI l k).2.2) from rfl, he, hp] at D
        rw [hp] at ST
        simp only [Int.toNat_natCast] at ST
        generalize (decI l k).1 = x at *
        obtain ⟨xo, xa, xb⟩ := x
        simp only at ho ra1 ra2 rb1 rb2
        subst ho
        obtain ⟨f1, f2, f3⟩ := fm_all (c : Int)
        have Y := Lib.hid (FC.out c hc20)
        have D2 := Lib.hid (show Calls Tryd.prog 12 #[.slice a n cap, .int .i64 (k : Int)] wr fun e w' => e = .returned (.tuple #[.agg #[.int .i64 (c : Int), .int .i64 xa, .int .i64 xb], .int .i64 ((k + 1 + (fmOf c).a + (fmOf c).b : Nat) : Int), .int .i64 0]) ∧ Below wr.heap.size wr w' from D.out)
        clear D hp he
        generalize hff : fmOf (c : Int) = f at *
        have HFF := Lib.hid hff; clear hff
        obtain ⟨fn, fa, fs', fb⟩ := f
        simp only at f1 f2 f3 Y D2 ST hple
        have hba := lt_of_cell ((cell_of_row wr bA (c * 4) _ _ _ HQ.out).trans Y.out.1)
        have FY := Lib.hid (show ∀ W, Below wr.heap.size wr W → W.cell? ⟨bA, c * 4, none⟩ = some (.string ⟨fn.toArray⟩) ∧ W.cell? ⟨bA, c * 4 + 1, none⟩ = some (.int .i64 (fa : Int)) ∧ W.cell? ⟨bA, c * 4 + 2, none⟩ = some (.bool fs') ∧ W.cell? ⟨bA, c * 4 + 3, none⟩ = some (.int .i64 (fb : Int)) from fun W hW => by
          have hq := (hW.block bA hba).trans HQ.out
          exact ⟨(cell_of_row W bA _ _ _ _ hq).trans Y.out.1, (cell_of_row W bA _ _ _ _ hq).trans Y.out.2.1, (cell_of_row W bA _ _ _ _ hq).trans Y.out.2.2.1, (cell_of_row W bA _ _ _ _ hq).trans Y.out.2.2.2⟩)
        have hpos : ((k + 1 + fa + fb : Nat) : Int) ≤ 100000 := by have := HN.out; omega
        have hpos0 : 0 ≤ ((k + 1 + fa + fb : Nat) : Int) := by omega
        generalize hPP : k + 1 + fa + fb = P at *
        have HPP := Lib.hid hPP; clear hPP
        go_upto_region 9 with (go_at_call 12; refine D2.out.mono ?_; rintro e w3 ⟨rfl, hg3⟩; obtain ⟨x0, x1, x2, x3⟩ := FY.out w3 hg3; have hba3 : bA < w3.heap.size := Nat.lt_of_lt_of_le hba hg3.size; have HG3 := Lib.hid hg3; clear hg3)
        have g4 : Below w3.heap.size w3 ((w3.alloc (.cells #[.int .i64 (c : Int), .int .i64 xa, .int .i64 xb] 27)).alloc (.cells #[.string ⟨fn.toArray⟩, .int .i64 (fa : Int), .bool fs', .int .i64 (fb : Int)] 58)) := ((Below.refl _ _).alloc (Nat.le_refl _) _).alloc (by simp) _
        have qx : ((w3.alloc (.cells #[.int .i64 (c : Int), .int .i64 xa, .int .i64 xb] 27)).alloc (.cells #[.string ⟨fn.toArray⟩, .int .i64 (fa : Int), .bool fs', .int .i64 (fb : Int)] 58)).heap[w3.heap.size]? = some (.cells #[.int .i64 (c : Int), .int .i64 xa, .int .i64 xb] 27 (0, 0)) := (heap_alloc_old _ _ (by simp)).trans (heap_alloc_new w3 _)
        have qf : ((w3.alloc (.cells #[.int .i64 (c : Int), .int .i64 xa, .int .i64 xb] 27)).alloc (.cells #[.string ⟨fn.toArray⟩, .int .i64 (fa : Int), .bool fs', .int .i64 (fb : Int)] 58)).heap[w3.heap.size + 1]? = some (.cells #[.string ⟨fn.toArray⟩, .int .i64 (fa : Int), .bool fs', .int .i64 (fb : Int)] 58 (0, 0)) := by
          have := heap_alloc_new (w3.alloc (.cells #[.int .i64 (c : Int), .int .i64 xa, .int .i64 xb] 27)) (.cells #[.string ⟨fn.toArray⟩, .int .i64 (fa : Int), .bool fs', .int .i64 (fb : Int)] 58)
          simpa using this
        generalize ((w3.alloc (.cells #[.int .i64 (c : Int), .int .i64 xa, .int .i64 xb] 27)).alloc (.cells #[.string ⟨fn.toArray⟩, .int .i64 (fa : Int), .bool fs', .int .i64 (fb : Int)] 58)) = w4 at *
        have hw34 := g4.size
        have G4 := Lib.hid (HG3.out.trans (g4.mono HG3.out.size))
        have hbx : w3.heap.size < w4.heap.size := lt_of_cell (cell_of_row w4 _ 0 _ _ _ qx)
        have hbf : w3.heap.size + 1 < w4.heap.size := lt_of_cell (cell_of_row w4 _ 0 _ _ _ qf)
        have FX := Lib.hid (show ∀ W, Below w4.heap.size w4 W → (W.cell? ⟨w3.heap.size, 1, none⟩ = some (.int .i64 xa) ∧ W.cell? ⟨w3.heap.size, 2, none⟩ = some (.int .i64 xb) ∧ W.cell? ⟨w3.heap.size + 1, 1, none⟩ = some (.int .i64 (fa : Int)) ∧ W.cell? ⟨w3.heap.size + 1, 3, none⟩ = some (.int .i64 (fb : Int))) ∧ W.cell? ⟨w3.heap.size + 1, 0, none⟩ = some (.string ⟨fn.toArray⟩) from fun W hW => by
          have a1 := (hW.block w3.heap.size hbx).trans qx
          have a2 := (hW.block (w3.heap.size + 1) hbf).trans qf
          exact ⟨⟨cell_of_row W _ _ _ _ _ a1, cell_of_row W _ _ _ _ _ a1, cell_of_row W _ _ _ _ _ a2, cell_of_row W _ _ _ _ _ a2⟩, cell_of_row W _ _ _ _ _ a2⟩)
        have IT := Lib.hid (show ∀ (z : Int), -100000 ≤ z → z ≤ 100000 → ∀ W, Below w4.heap.size w4 W → Calls Tryd.prog 25 #[.int .i64 z] W fun e w' => e = .returned (.string ⟨(Lib.itoa z).toArray⟩) ∧ Below w4.heap.size w4 w' ∧ Below W.heap.size W w' from fun z z1 z2 W hW => (itoa_any z (by omega) (by omega) W (tabis_later (tabis_later (tabis_later HT.out HGk.out) G4.out) hW)).mono fun e w' h => ⟨h.1, hW.trans (h.2.mono hW.size), h.2⟩)
        have z4 : Below w4.heap.size w4 w4 := Below.refl _ _
        obtain ⟨⟨p1, p2, p3, p4⟩, p0⟩ := FX.out w4 z4
        clear g4 qx qf x0 x1 x2 x3
        go_region_held3 (fun w' => w'.cell? ⟨w3.heap.size + 1, 0, none⟩ = some (.string ⟨fn.toArray⟩))
          (first | exact p0 | exact r0 | exact (FX.out _ (hg5.alloc hg5.size _)).2 | ((refine (fun h => h.2) (FX.out _ ?_)); repeat (first | with_reducible exact Below.refl _ _ | ((with_reducible refine Below.setCell ?_ ?_ _); rotate_left; focus (first | (simp; done) | (simp; omega) | omega)) | ((with_reducible refine Below.alloc ?_ ?_ _); rotate_left; focus (first | (simp; done) | (simp; omega) | omega)) | (with_reducible refine Below.drew ?_) | ((with_reducible refine Below.trans ?_ (Below.mono z4 ?_)); rotate_left; focus (first | (simp; done) | (simp; omega) | omega)))) | ((refine (fun h => h.2) (FX.out _ ?_)); repeat (first | with_reducible exact Below.refl _ _ | ((with_reducible refine Below.setCell ?_ ?_ _); rotate_left; focus (first | (simp; done) | (simp; omega) | omega)) | ((with_reducible refine Below.alloc ?_ ?_ _); rotate_left; focus (first | (simp; done) | (simp; omega) | omega)) | (with_reducible refine Below.drew ?_) | ((with_reducible refine Below.trans ?_ (Below.mono hg5 ?_)); rotate_left; focus (first | (simp; done) | (simp; omega) | omega)))))
          (first | (go_at_call 25; refine (IT.out _ (by omega) (by omega) _ (Below.refl _ _).drew).mono ?_; rintro e w5 ⟨rfl, hg5, -⟩; have r0 := (FX.out w5 hg5).2))
        have hO6 : OwnsS (w5.alloc (.cells #[.string ⟨(Lib.itoa k).toArray⟩, .string ⟨fn.toArray⟩] 9)) w4.heap.size (.slice (some ⟨w5.heap.size, 0, none⟩) 2 2) [⟨(Lib.itoa k).toArray⟩, ⟨fn.toArray⟩] := ownsS_new w5 _ hg5.size _ _
        have g6 : Below w4.heap.size w4 (w5.alloc (.cells #[.string ⟨(Lib.itoa k).toArray⟩, .string ⟨fn.toArray⟩] 9)) := hg5.alloc hg5.size _
        generalize (w5.alloc (.cells #[.string ⟨(Lib.itoa k).toArray⟩, .string ⟨fn.toArray⟩] 9)) = w6 at *
        generalize w5.heap.size = q5 at *
        clear p0 p1 p2 p3 p4 r0
        obtain ⟨⟨p1, p2, p3, p4⟩, p0⟩ := FX.out w6 g6
        have hs6 := g6.size
        have hwl0 : ([⟨(Lib.itoa k).toArray⟩, ⟨fn.toArray⟩] : List ByteArray).length ≤ 2 := by simp
        generalize hw0 : ([⟨(Lib.itoa k).toArray⟩, ⟨fn.toArray⟩] : List ByteArray) = ws0 at hO6 hwl0
        have HW0 := Lib.hid hw0; clear hw0
        have HO6 := Lib.hid hO6; have G6 := Lib.hid g6
        clear hO6 g6 hg5 p0
        go_upto_if 38 with fail
        generalize hbt : decide (0 < fa) = t1
        have HBT := Lib.hid hbt; clear hbt
        go_cut [11] from 39 to 44 (fun q wx => OwnsS wx w4.heap.size q (ws0 ++ if t1 then [⟨(Lib.itoa xa).toArray⟩] else []) ∧ Below w4.heap.size w4 wx)
        case first =>
          cases t1
          rotate_left
          · go_wp2_with fail
            refine (IT.out xa (by omega) (by omega) _ G6.out).mono ?_
            rintro e w7 ⟨rfl, hg7, hh7⟩
            have ho7 : OwnsS w7 w4.heap.size (.slice (some ⟨q5, 0, none⟩) 2 2) (ws0) := owns_later HO6.out hh7
            have HO7 := Lib.hid ho7; have HG7 := Lib.hid hg7; have hs7 := hg7.size
            clear ho7 hg7 hh7
            go_wp2_with (at_builtin; refine wpList_append_own _ rfl _ _ 72 rfl w4.heap.size 9 i1 (.string ⟨#[]⟩) 1 16 Tryd.underlying72 si sz0 sz1 sz2 rfl (by decide) (.slice (some ⟨q5, 0, none⟩) 2 2) _ _ rfl (HO7.out.alloc _) ⟨w7.heap.size, 0, none⟩ 1 1 [.string ⟨(Lib.itoa xa).toArray⟩] rfl rfl ?c1 ?c2 ?c3 ?c4 ?c5 ?_)
            case c1 =>
              intro j u hj
              match j, hj with
              | 0, hj => simp at hj; subst hj; simp [Addr.add]
            case c2 => intro u hu; simp at hu; subst hu; rfl
            case c3 => unfold maxLen; omega
            case c4 => omega
            case c5 => simp; omega
            intro v' w8 hown' hgrow _
            have hg8 : Below w4.heap.size w4 w8 := Below.grown (HG7.out.alloc hs7 _) hgrow (by simp; omega) (fun q hq => (HO7.out.lt q hq).1)
            have HO8 := Lib.hid (OwnsS.push hown'); have HG8 := Lib.hid hg8
            clear hown' hgrow hg8
            go_wp2_with fail
            go_meet
            exact ⟨HO8.out, HG8.out⟩
          · go_wp2_with fail
            go_meet
            exact ⟨by rw [if_neg (by decide), List.append_nil]; exact HO6.out, G6.out⟩
        case rest =>
          obtain ⟨hO9, hG9⟩ := hcut
          have hws : (ws0 ++ if t1 then ([⟨(Lib.itoa xa).toArray⟩] : List ByteArray) else []).length ≤ 3 := by split <;> simp <;> omega
          generalize hw1 : (ws0 ++ if t1 then ([⟨(Lib.itoa xa).toArray⟩] : List ByteArray) else []) = ws1 at *
          have HW1 := Lib.hid hw1; clear hw1
          obtain ⟨w9, hw9⟩ : ∃ w9, w9 = wc := ⟨_, rfl⟩
          rw [← hw9] at hO9 hG9 ⊢
          clear hw9 p1 p2 p3 p4
          have hs9 := hG9.size
          obtain ⟨⟨p1, p2, p3, p4⟩, -⟩ := FX.out w9 hG9
          obtain ⟨v9, hv9⟩ : ∃ v9, v9 = u11 := ⟨_, rfl⟩
          rw [← hv9] at hO9 ⊢
          clear hv9
          have HO9 := Lib.hid hO9; have G9 := Lib.hid hG9
          clear hO9 hG9
          go_upto_if 47 with fail
          generalize hbu : decide (0 < fb) = t2
          have HBU := Lib.hid hbu; clear hbu
          go_cut [11] from 48 to 53 (fun q wx => OwnsS wx w4.heap.size q (ws1 ++ if t2 then [⟨(Lib.itoa xb).toArray⟩] else []) ∧ Below w4.heap.size w4 wx)
          case first =>
            cases t2
            rotate_left
            · go_wp2_with fail
              refine (IT.out xb (by omega) (by omega) _ G9.out).mono ?_
              rintro e w7 ⟨rfl, hg7, hh7⟩
              have ho7 : OwnsS w7 w4.heap.size v9 (ws1) := owns_later HO9.out hh7
              have HO7 := Lib.hid ho7; have HG7 := Lib.hid hg7; have hs7 := hg7.size
              clear ho7 hg7 hh7
              go_wp2_with (at_builtin; refine wpList_append_own _ rfl _ _ 72 rfl w4.heap.size 9 i1 (.string ⟨#[]⟩) 1 16 Tryd.underlying72 si sz0 sz1 sz2 rfl (by decide) v9 _ _ rfl (HO7.out.alloc _) ⟨w7.heap.size, 0, none⟩ 1 1 [.string ⟨(Lib.itoa xb).toArray⟩] rfl rfl ?c1 ?c2 ?c3 ?c4 ?c5 ?_)
              case c1 =>
                intro j u hj
                match j, hj with
                | 0, hj => simp at hj; subst hj; simp [Addr.add]
              case c2 => intro u hu; simp at hu; subst hu; rfl
              case c3 => unfold maxLen; omega
              case c4 => omega
              case c5 => simp; omega
              intro v' w8 hown' hgrow _
              have hg8 : Below w4.heap.size w4 w8 := Below.grown (HG7.out.alloc hs7 _) hgrow (by simp; omega) (fun q hq => (HO7.out.lt q hq).1)
              have HO8 := Lib.hid (OwnsS.push hown'); have HG8 := Lib.hid hg8
              clear hown' hgrow hg8
              go_wp2_with fail
              go_meet
              exact ⟨HO8.out, HG8.out⟩
            · go_wp2_with fail
              go_meet
              exact ⟨by rw [if_neg (by decide), List.append_nil]; exact HO9.out, G9.out⟩
          case rest =>
            obtain ⟨hO10, hG10⟩ := hcut
            obtain ⟨w10, hw10⟩ : ∃ w10, w10 = wc := ⟨_, rfl⟩
            rw [← hw10] at hO10 hG10 ⊢
            clear hw10 p1 p2 p3 p4
            have hs10 := hG10.size
            have hwn : (ws1 ++ if t2 then ([⟨(Lib.itoa xb).toArray⟩] : List ByteArray) else []).length ≤ 4 := by split <;> simp <;> omega
            have hwne : (ws1 ++ if t2 then ([⟨(Lib.itoa xb).toArray⟩] : List ByteArray) else []) ≠ [] := by
              intro e; have := congrArg List.length e; rw [← HW1.out, ← HW0.out] at this; simp at this
            have hwl : ((ws1 ++ if t2 then ([⟨(Lib.itoa xb).toArray⟩] : List ByteArray) else []).map (·.data.toList)) = wordsL k ⟨(c : Int), xa, xb⟩ := by
              rw [← HW1.out, ← HW0.out, ← HBT.out, ← HBU.out]
              unfold wordsL
              simp only [HFF.out, decide_eq_true_eq]
              split <;> split <;> simp
            generalize hw2 : (ws1 ++ if t2 then ([⟨(Lib.itoa xb).toArray⟩] : List ByteArray) else []) = ws2 at *
            clear hw2
            obtain ⟨bk, o, cp, rfl, hcp, hrow⟩ : ∃ bk o cp, u11 = .slice (some ⟨bk, o, none⟩) ws2.length cp ∧ ws2.length ≤ cp ∧ ∀ (j : Nat) x, ws2[j]? = some x → w10.cell? ⟨bk, o + j, none⟩ = some (.string x) := by
              obtain ⟨ao, cp, hv, h1, h2, h3, -, h4⟩ := row_of_owns hO10
              rcases h3 with h3 | ⟨b, o, rfl, h3⟩
              · exact absurd (by simpa using h3) hwne
              · exact ⟨b, o, cp, hv, h1, fun j x hx => by rw [h3 j (by rw [List.length_map]; exact (List.getElem?_eq_some_iff.1 hx).1), List.getElem?_map, hx]; rfl⟩
            have hll := LL.out
            have hjl : (Lib.join (ws2.map (·.data.toList)) [32]).length ≤ 90 := by
              rw [hwl]; unfold lineL at hll; rw [List.length_append] at hll; omega
            have hbk : bk < w10.heap.size := by
              have : 0 < ws2.length := List.length_pos_iff.2 hwne
              exact lt_of_cell (hrow 0 _ (List.getElem?_eq_getElem this))
            have JO := Lib.hid (Tryd.strings_Join bk o cp ws2 ⟨#[32]⟩ w10 hrow hbk (by omega) hcp (by have e : (⟨#[32]⟩ : ByteArray).data.toList = [32] := rfl; rw [e]; omega))
            have HLN := Lib.hid (show Lib.join (ws2.map (·.data.toList)) [32] ++ [10] = lineL k ⟨(c : Int), xa, xb⟩ by rw [hwl]; rfl)
            generalize Lib.join (ws2.map (·.data.toList)) [32] = jl at *
            clear hwl hrow hll hO10
            generalize hn2 : ws2.length = n2 at *
            clear hn2
            have hlb := isB_lt HBk.out
            have HB10 := Lib.hid (isB_later (isB_later HBk.out G4.out) hG10)
            have G10 := Lib.hid (G4.out.trans (hG10.mono G4.out.size))
            clear hG10
            go_wp2_with (go_at_call 27; refine JO.out.mono ?_; rintro e w11 ⟨rfl, hg11⟩; have HG11 := Lib.hid hg11; clear hg11)
            refine (sbWriteString w.heap.size w.heap.size _ _ _ (isB_later HB10.out HG11.out) (by rw [Lib.byteCells_length, ByteArray.size_append]; show acc.length + (jl.toArray.size + 1) ≤ _; simp; omega) (by have := G10.out.size; have := HG11.out.size; omega)).mono ?_
            rintro e w12 ⟨rfl, hb12, hg12, hk12⟩
            have hc12 : Lib.byteCells acc ++ Lib.strCells ((⟨jl.toArray⟩ : ByteArray) ++ ⟨#[10]⟩) = Lib.byteCells (acc ++ lineL k ⟨(c : Int), xa, xb⟩) := by
              rw [← HLN.out, Lib.byteCells_append]
              congr 1
            rw [hc12] at hb12
            have hq12 := hk12 bA _ ((HG11.out.block bA (by omega)).trans ((G10.out.block bA hba).trans HQ.out)) (by simp; omega) (by intro c1 f1 hc; injection hc with _ h2; exact absurd h2 (by decide))
            have HB12 := Lib.hid hb12; have HQ12 := Lib.hid hq12
            have HG12 := Lib.hid (((HGk.out.trans (G10.out.mono hwr)).trans (HG11.out.mono (by have := G10.out.size; omega))).trans hg12)
            clear hb12 hq12 hg12 hk12 hc12
            go_wp2_with fail
            go_roundg f'
            case measure => rw [HK.out]; omega
            case rel => exact ⟨f', P, _, rfl, by rw [← HN.out]; exact hple, by have := HPP.out; omega, rfl, ST.out.symm, by have := LL.out; have := HPP.out; rw [List.length_append]; omega, HB12.out, HG12.out, HQ12.out⟩
      · have D2 := Lib.hid (show Calls Tryd.prog 12 #[.slice a n cap, .int .i64 (k : Int)] wr fun e w' => e = .returned (.tuple #[.agg #[.int .i64 (decI l k).1.op, .int .i64 (decI l k).1.a, .int .i64 (decI l k).1.b], .int .i64 (decI l k).2.1, .int .i64 (decI l k).2.2]) ∧ Below wr.heap.size wr w' from D.out)
        have ST := Lib.hid (HTX.out.symm.trans (textG_bad hkl he))
        clear D
        have he' : ((decI l k).2.2 == 0) = false := by simpa using he
        have he2 : ((decI l k).2.2 != 0) = true := by simpa using he
        generalize (decI l k).2.2 = ee at *
        generalize (decI l k).2.1 = pp at *
        generalize (decI l k).1 = x at *
        clear he
        go_wp2_with (go_at_call 12; refine D2.out.mono ?_; rintro e w3 ⟨rfl, hg3⟩; have HG3 := Lib.hid (HGk.out.trans (hg3.mono hwr)); have hs3 := HG3.out.size; clear hg3)
        exact bodyPost_ret (results_tmp2 Tryd.results15 _ _ _) rfl ⟨by rw [ST.out]; rfl, by repeat (first | with_reducible exact Below.refl _ _ | ((with_reducible refine Below.setCell ?_ ?_ _); rotate_left; focus (first | (simp; done) | (simp; omega) | omega)) | ((with_reducible refine Below.alloc ?_ ?_ _); rotate_left; focus (first | (simp; done) | (simp; omega) | omega)) | (with_reducible refine Below.drew ?_) | ((with_reducible refine Below.trans ?_ (Below.mono HG3.out ?_)); rotate_left; focus (first | (simp; done) | (simp; omega) | omega)))⟩
    · obtain rfl : k = n := by omega
      have ST := Lib.hid (HTX.out.symm.trans (textG_end (by rw [HN.out]; omega)))
      have hlb := isB_lt HBk.out
      go_wp2_with fail
      refine (Tryd.Builder_String_any w.heap.size w.heap.size acc _ HBk.out HGk.out.size).mono ?_
      rintro e w3 ⟨rfl, hg3⟩
      have HG3 := Lib.hid (HGk.out.trans hg3); clear hg3
      go_wp2_with fail
      exact bodyPost_ret (results_tmp2 Tryd.results15 _ _ _) rfl ⟨by rw [ST.out]; rfl, HG3.out⟩
end Go.Proofs.YtnajgpefmknmpaaDoor
