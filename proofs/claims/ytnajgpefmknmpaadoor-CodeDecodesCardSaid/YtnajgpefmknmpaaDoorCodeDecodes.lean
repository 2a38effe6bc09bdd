/- LAW CodeDecodes: it returns true whatever the bytes and the place that came in; of the tables that lie laid it asks what the card ties. -/
import Derived.Test.YtnajgpefmknmpaaDoorCodeDecP
import Derived.Test.YtnajgpefmknmpaaDoorCodeRB
import Derived.Test.YtnajgpefmknmpaaDoorCodeOpen
import Derived.Test.YtnajgpefmknmpaaDoorTie
import Derived.Test.YtnajgpefmknmpaaDoorCards
import Derived.ChangeOld
import Derived.Deep.Cut
import Derived.Deep.CutRange
import Derived.Deep.CutBlock
namespace Go.Proofs.YtnajgpefmknmpaaDoor.codeDecodes
open Go.ChangeShapes Go.WideShapes Go.ChangeAt Go.RowKit
set_option linter.unusedVariables false
/-- what an instruction's code is, alone -/
theorem enc_one (x : Ins) (h : encOk x = true) : [x].all encOk = true ∧ encAll [x] = encB x := ⟨by simp [h], by simp [encAll]⟩
theorem okI_dec {l : List UInt8} {k : Nat} (h : k < l.length) (he : (decI l k).2.2 = 0) : okI (decI l k).1 := by
  obtain ⟨c, hc20, -, ho, hp, hple, -, -⟩ := dec_ok h he
  obtain ⟨ra1, ra2, rb1, rb2⟩ := dec_range h he
  exact ⟨⟨by omega, by omega⟩, ⟨by omega, by omega⟩, ⟨by omega, by omega⟩⟩
theorem insAt_one (w : World) (x : Ins) (hx : okI x) : InsAt (w.alloc (.cells #[.int .i64 x.op, .int .i64 x.a, .int .i64 x.b] 27)) (.slice (some ⟨w.heap.size, 0, none⟩) 1 1) [x] :=
  ⟨_, _, rfl, Nat.le_refl _, by unfold maxLen; omega, Or.inr ⟨w.heap.size, 0, rfl, fun j hj => by
    rw [cell_of_row _ _ _ _ _ _ (heap_alloc_new w _), Nat.zero_add]
    simp [insL, insC]⟩, fun y hy => by rw [List.mem_singleton] at hy; subst hy; exact hx⟩
set_option maxRecDepth 100000 in
set_option maxHeartbeats 1600000 in
theorem walk (v : Value) (l : List UInt8) (p : Int) (w : World) (h : BytesAt w v l) (hp : I64 p) (hT : Lib.TabIs Tryd.prog w "internal/strconv.uint64pow10" .u64 Lib.pow10Tab) :
    Calls Tryd.prog 4 #[v, .int .i64 p] w fun e w' => e = .returned (.bool true) ∧ Below w.heap.size w w' := by
  have AW := Lib.hid (awake_any w hT)
  have HTB := Lib.hid hT
  have H := Lib.hid h
  clear hT
  obtain ⟨a, cap1, rfl, hcap, hmx, -, -⟩ := h
  unfold maxLen at hmx
  go_enter Tryd.func4, Tryd.ntmps4
  go_upto_if 20 with (go_at_call 7; refine AW.out.mono ?_; rintro en w1 ⟨rfl, hg1⟩; have HG1 := Lib.hid hg1; clear hg1)
  generalize hbt : decide ((400 : Int) < (l.length : Int)) = t1
  have HBT := Lib.hid hbt; clear hbt
  go_cut [0] from 21 to 22 (fun s0 wx => wx = w1 ∧ ∃ l', BytesAt w1 s0 l' ∧ l'.length ≤ 400)
  case first =>
    cases t1
    · have hle : l.length ≤ 400 := by have := of_decide_eq_false HBT.out; omega
      have HA := Lib.hid (H.out.later HG1.out)
      have HLE := Lib.hid hle
      clear hle
      go_wp2_with fail
      go_meet
      exact ⟨rfl, l, HA.out, HLE.out⟩
    · have hle : 400 ≤ l.length := by have := of_decide_eq_true HBT.out; omega
      obtain ⟨v', hv', hsl⟩ := (H.out.later HG1.out).head 400 hle
      have hsl2 : ∀ W, (Instr.slice 29 (.slice a l.length cap1) none (some (.int .i64 400)) none).run Tryd.prog W = .ok v' W := hsl
      have HV := Lib.hid hv'
      have HTL := Lib.hid (show (l.take 400).length ≤ 400 by rw [List.length_take]; omega)
      generalize l.length = n at *
      clear hsl hv' hle
      go_wp2_with fail
      go_meet
      exact ⟨rfl, _, HV.out, HTL.out⟩
  case rest =>
    obtain ⟨hwc, m, hM, hM1⟩ := hcut
    obtain rfl := hwc.symm
    have HM := Lib.hid hM
    obtain ⟨ma, mc, hu, hmc, hmm2, -, -⟩ := hM
    obtain ⟨v0, hv0⟩ : ∃ v0, v0 = u0 := ⟨_, rfl⟩
    rw [← hv0] at hu HM ⊢
    clear hv0
    subst hu
    unfold maxLen at hmm2
    clear HBT H AW
    generalize l.length = n0 at *
    have CP := Lib.hid (copy_any _ m w1 HM.out (by omega))
    have DC := Lib.hid (fun (v : Value) (W : World) (hv : BytesAt W v m) => show Calls Tryd.prog 12 #[v, .int .i64 p] W fun e w' => e = .returned (.tuple #[.agg #[.int .i64 (decI m p).1.op, .int .i64 (decI m p).1.a, .int .i64 (decI m p).1.b], .int .i64 (decI m p).2.1, .int .i64 (decI m p).2.2]) ∧ Below W.heap.size W w' from dec_any v m p W hv (by omega))
    have DR := Lib.hid (fun (v : Value) (W : World) (hv : BytesAt W v m) => show Calls Tryd.prog 14 #[v, .int .i64 p] W fun e w' => e = .returned (.tuple #[.agg #[.int .i64 (decI m p).1.op, .int .i64 (decI m p).1.a, .int .i64 (decI m p).1.b], .int .i64 (decI m p).2.1, .int .i64 (decI m p).2.2]) ∧ Below W.heap.size W w' from rdec_any v m p W hv (by omega))
    have TC := Lib.hid (fun (W : World) (hW : Below w1.heap.size w1 W) => text_any _ m W (HM.out.later hW) (by omega) (tabis_later HTB.out (HG1.out.trans (hW.mono HG1.out.size))))
    have TR := Lib.hid (fun (W : World) (hW : Below w1.heap.size w1 W) => rtextall_any _ m W (HM.out.later hW) (by omega))
    unfold TextPost at TC
    unfold RTextPost at TR
    have hbd := dec_bd m p (by omega)
    have HCASE := Lib.hid (show (decI m p).2.2 = 0 → ∃ k n : Nat, p = k ∧ (decI m p).2.1 = ((k + n : Nat) : Int) ∧ k + n ≤ m.length ∧ okI (decI m p).1 ∧ encOk (decI m p).1 = true ∧ encB (decI m p).1 = (m.drop k).take n from fun he => by
      have hp0 : ¬ (p < 0 ∨ (m.length : Int) < p) := fun h => by rw [dec_arg h] at he; cases he
      obtain ⟨k, rfl⟩ := Int.eq_ofNat_of_zero_le (show 0 ≤ p by omega)
      have hkl : k < m.length := by
        rcases Nat.lt_or_ge k m.length with h | h
        · exact h
        · have : k = m.length := by omega
          rw [this, dec_end] at he; cases he
      obtain ⟨n, h1, h2, h3, h4, h5⟩ := enc_dec hkl he
      exact ⟨k, n, rfl, h1, h2, okI_dec hkl he, h4, h5⟩)
    generalize (textM m).1 = tx at *
    generalize (textM m).2 = te at *
    generalize (decI m p).2.2 = ee at *
    generalize (decI m p).2.1 = q at *
    generalize (decI m p).1 = x at *
    have OW := Lib.hid (fun W => own_any x W)
    generalize hmn : m.length = n at *
    have HMN := Lib.hid hmn; clear hmn
    go_wp2_with fail
    refine CP.out.mono ?_
    rintro en w2 ⟨s1, rfl, hs1, hg2⟩
    have B2 := Lib.hid hg2
    have hb1 := bytes_of_owns hs1
    have HB1 := Lib.hid hb1
    obtain ⟨ca, cc, rfl, -⟩ := hb1
    clear hs1 hg2 CP
    go_wp2_with fail
    refine (DC.out _ _ HB1.out).mono ?_
    rintro en w3 ⟨rfl, hg3⟩
    have g3 : Below w1.heap.size w1 w3 := B2.out.trans (hg3.mono B2.out.size)
    have g4 : Below w1.heap.size w1 (w3.alloc (.cells #[.int .i64 x.op, .int .i64 x.a, .int .i64 x.b] 27)) := g3.alloc g3.size _
    have G4 := Lib.hid g4
    have DR2 := Lib.hid (DR.out _ _ (HM.out.later G4.out))
    have hs4 := g4.size
    have HBX := Lib.hid (show (w3.alloc (.cells #[.int .i64 x.op, .int .i64 x.a, .int .i64 x.b] 27)).heap[w3.heap.size]? = some (.cells #[.int .i64 x.op, .int .i64 x.a, .int .i64 x.b] 27 (0, 0)) from heap_alloc_new w3 _)
    clear hg3 g3 g4
    go_wp2_with fail
    generalize w3.alloc (.cells #[.int .i64 x.op, .int .i64 x.a, .int .i64 x.b] 27) = w4 at *
    have hbxl : w3.heap.size < w4.heap.size := lt_of_cell (cell_of_row w4 _ 0 _ _ _ HBX.out)
    generalize w3.heap.size = bx at *
    refine DR2.out.mono ?_
    rintro en w5 ⟨rfl, hg5⟩
    have g6 : Below w4.heap.size w4 (w5.alloc (.cells #[.int .i64 x.op, .int .i64 x.a, .int .i64 x.b] 26)) := hg5.alloc hg5.size _
    have G6 := Lib.hid (G4.out.trans (g6.mono hs4))
    have HBX6 := Lib.hid ((g6.block bx hbxl).trans HBX.out)
    have HBY := Lib.hid (show (w5.alloc (.cells #[.int .i64 x.op, .int .i64 x.a, .int .i64 x.b] 26)).heap[w5.heap.size]? = some (.cells #[.int .i64 x.op, .int .i64 x.a, .int .i64 x.b] 26 (0, 0)) from heap_alloc_new w5 _)
    have hs6 := G6.out.size
    clear hg5 g6 DR2
    go_wp2_with fail
    generalize w5.alloc (.cells #[.int .i64 x.op, .int .i64 x.a, .int .i64 x.b] 26) = w6 at *
    have hbyl : w5.heap.size < w6.heap.size := lt_of_cell (cell_of_row w6 _ 0 _ _ _ HBY.out)
    have hbxl6 : bx < w6.heap.size := lt_of_cell (cell_of_row w6 _ 0 _ _ _ HBX6.out)
    generalize w5.heap.size = by_ at *
    refine (TC.out _ G6.out).mono ?_
    rintro en w7 ⟨rfl, hg7⟩
    have G7 := Lib.hid hg7
    have G71 := Lib.hid (G6.out.trans (hg7.mono hs6))
    clear hg7
    go_wp2_with fail
    refine (TR.out _ G71.out).mono ?_
    rintro en w8 ⟨rfl, hg8⟩
    have g8 := G7.out.trans (hg8.mono G7.out.size)
    have G81 := Lib.hid (G71.out.trans (hg8.mono G71.out.size))
    have qx := (g8.block bx hbxl6).trans HBX6.out
    have qy := (g8.block by_ hbyl).trans HBY.out
    have x0 := cell_of_row w8 _ 0 _ _ _ qx
    have x1 := cell_of_row w8 _ 1 _ _ _ qx
    have x2 := cell_of_row w8 _ 2 _ _ _ qx
    have y0 := cell_of_row w8 _ 0 _ _ _ qy
    have y1 := cell_of_row w8 _ 1 _ _ _ qy
    have y2 := cell_of_row w8 _ 2 _ _ _ qy
    simp at x0 x1 x2 y0 y1 y2
    have hx8 := lt_of_cell x0
    have hy8 := lt_of_cell y0
    have HX := Lib.hid qx
    clear hg8 g8 qx qy
    have e1 : (q != q) = false := by simp
    have e2 : (ee != ee) = false := by simp
    have e3 : (te != te) = false := by simp
    generalize (⟨tx.toArray⟩ : ByteArray) = st at *
    have e5 : (x.op != x.op) = false := by simp
    have e6 : (x.a != x.a) = false := by simp
    have e7 : (x.b != x.b) = false := by simp
    go_wp2_with fail
    (refine wp_region_later (by kernel_rfl) (by kernel_rfl) ?_; (repeat (go_big_quiet_step ((go_at_call 8; exact calls_later OW.out)))); refine wpQuiet_nil ?_; intro w9 hw4; have hg := later_elim hw4; clear hw4)
    have G91 := Lib.hid (G81.out.trans (hg.mono G81.out.size))
    have qx := (hg.block bx hx8).trans HX.out
    have hs9 := hg.size
    clear x0 x1 x2 y0 y1 y2 hg e1 e3 e5 e6 e7
    have BXX := Lib.hid (HG1.out.trans (G91.out.mono HG1.out.size))
    by_cases he : ee = 0
    · subst he
      obtain ⟨k, nn, hk, hq, hkn, hok, hen, heb⟩ := HCASE.out rfl
      subst hk hq
      have x0 := cell_of_row w9 _ 0 _ _ _ qx
      have x1 := cell_of_row w9 _ 1 _ _ _ qx
      have x2 := cell_of_row w9 _ 2 _ _ _ qx
      simp at x0 x1 x2
      obtain ⟨en1, en2⟩ := enc_one x hen
      have E := Lib.hid (encode_any _ [x] _ (insAt_one w9 x hok) (by simp))
      have EN := Lib.hid en1
      obtain ⟨vp, hvp, hsl⟩ := (HM.out.later G91.out).part k nn (by rw [HMN.out]; exact hkn)
      have VP := Lib.hid hvp
      rw [← heb, ← en2] at VP
      have hsl2 : ∀ W, (Instr.slice 29 (.slice ma n mc) (some (.int .i64 (k : Int))) (some (.int .i64 ((k : Int) + (nn : Int)))) none).run Tryd.prog W = .ok vp W := hsl
      clear hok hen heb en1 en2 hvp hsl qx
      go_wp2_with fail
      refine E.out.mono ?_
      intro en w10 hp10
      obtain ⟨v10, rfl, ho10, hg10⟩ := hp10.t EN.out
      have g10 : Below w9.heap.size w9 w10 := ((Below.refl _ _).alloc (Nat.le_refl _) _).trans (hg10.mono (by simp))
      have EQ := Lib.hid (requal_any v10 vp _ _ w10 (bytes_of_owns ho10) (VP.out.later g10))
      rw [beq_self_eq_true] at EQ
      have B10 := Lib.hid (BXX.out.trans (g10.mono BXX.out.size))
      clear hp10 ho10 hg10 g10
      go_wp2_with fail
      refine EQ.out.mono ?_
      rintro en w11 ⟨rfl, hw11⟩
      obtain rfl := hw11.symm
      go_wp2_with fail
      go_ret
      exact ⟨rfl, B10.out⟩
    · have he1 : (ee == 0) = false := by simpa using he
      have he2 : (ee != 0) = true := by simpa using he
      go_wp2_with fail
      go_ret
      exact ⟨rfl, BXX.out⟩
theorem own : ownKnob Tryd.prog.godebug = none := by kernel_rfl
theorem laidOut : laidOutB Tryd.prog = true := by kernel_rfl
set_option maxRecDepth 100000 in
theorem lifted (os : Os) (started : os.Started) (H : Type) (enc : TypeId × Value → H) :
    ReturnsInHanded {} Tryd.checked os 4 .any (fun w args => (Rows.codeDecodesSpec.pre enc Tryd.prog Tryd.f4 Rows.codeDecodesRow.domain false w args ∧ laidMet Tryd.prog Rows.codeDecodesRow.laid w) ∧ sizedMet enc Tryd.prog Tryd.f4 (OpenSpec.ofChange Rows.codeDecodesSpec) false w args)
      (Rows.codeDecodesSpec.post enc Tryd.prog Tryd.f4 false true false false) := by
  refine returnsInHanded_of_change_and (C := Tryd.checked) (X := fun w _ => laidMet Tryd.prog Rows.codeDecodesRow.laid w) (fun _ _ _ hh h => h.of_heap hh) own started (by kernel_rfl) Tryd.func4
    (ChangeSpec.witness_at (enc := enc) (C := Tryd.checked) (os := os) (X := fun w _ => laidMet Tryd.prog Rows.codeDecodesRow.laid w) false (laidWorld os) #[.slice none 0 0, .int .i64 0] 8 rfl (by kernel_rfl) (by kernel_rfl) (by kernel_rfl) (by kernel_rfl) (by kernel_rfl) (laid_met os _)) ?_
  intro W base args ds gs before hval0 hW hcnd hsz0 hL _
  have hval : ∀ (j : Nat) t v, Tryd.f4.params[j]? = some t → args[j]? = some v → Value.okWide Tryd.prog W .any base t v := hval0
  have hW' := hW
  obtain ⟨p, q, hA0, hV, rfl, hfz, hnd⟩ := hW
  have hA : DataW.TrodAll enc Tryd.prog W 0 (fun _ => true) true Tryd.f4.params.toList args.toList ds p := hA0
  rw [Tryd.params4] at hA hval
  obtain ⟨v0, vs0, d0, ds0, p0, q0, hargs, rfl, rfl, h0, r0⟩ := trodAll_cons hA
  obtain ⟨v1, vs1, d1, ds1, p1, q1, rfl, rfl, rfl, h1, r1⟩ := trodAll_cons r0
  obtain ⟨rfl, rfl, rfl⟩ := trodAll_nil r1
  obtain rfl : args = #[v0, v1] := by cases args; simp_all
  obtain ⟨rfl, rfl⟩ := trodVars_none hV
  have k0 := h0
  have lt0 : ∀ x ∈ p0, x.block < W.heap.size := by obtain ⟨m, hm⟩ := k0; exact DataW.trod_lt m _ _ _ hm
  have k1 := h1
  have lt1 : ∀ x ∈ p1, x.block < W.heap.size := by obtain ⟨m, hm⟩ := k1; exact DataW.trod_lt m _ _ _ hm
  obtain ⟨l, hl⟩ := open_bytes (hval 0 29 v0 rfl rfl) h0
  obtain ⟨n, rfl, -, -, hn⟩ := open_int Tryd.underlying3 (hval 1 3 v1 rfl rfl) h1
  have hb := bounds_i64 hn
  have hT := tab_of_laid hL
  clear hA0 hval0
  refine (walk v0 l n W hl ⟨by omega, by omega⟩ hT).mono fun e W' ⟨he, bel⟩ => ?_
  subst he
  exact ⟨_, rfl, _, _, _, [], _, [], hW', trodAll_mk1 (shut_bool Tryd.underlying4 _), (trodAll_cons_mk (Below.trod laidOut (by kernel_rfl) (of_decide_eq_true (by kernel_rfl)) k0 bel lt0) (trodAll_cons_mk (Below.trod laidOut (by kernel_rfl) (of_decide_eq_true (by kernel_rfl)) k1 bel lt1) trodAll_mk0)), rfl, bel.frame _, fun h => by cases h⟩
theorem over : Rows.codeDecodesRow.holds Tryd.pinned (OpenSpec.ofChange Rows.codeDecodesSpec) :=
  OpenClaim.holds_of_wide 4 Tryd.f4 rfl rfl rfl rfl rfl rfl rfl ⟨rfl, rfl, rfl, rfl, rfl⟩ rfl rfl rfl rfl rfl (by kernel_rfl) Tryd.func4 (by kernel_rfl)
    (of_decide_eq_true (by kernel_rfl)) (by unfold Func.isWrapper; rw [if_neg (by decide +kernel)]; exact ⟨rfl, rfl⟩)
    (fun os started H enc _ => lifted os started H enc)
theorem proved : Rows.CodeDecodesCardSaid :=
  Claim7.holds_tied_plain_at .later [] [.data, .data, .data] true (true, "d7c8e61464f1694cb5dba5bc2a5b84bdbbfecf7e2eafed13dcf4db7bf58ed3fa") false
    over (fun _ h => by cases h) (by kernel_rfl) (fun _ h => by cases h) codeDecodes_row_tie rfl ⟨rfl, rfl⟩ (by kernel_rfl) rfl
    (fun f fn hf hfn => by
      obtain rfl : f = 4 := Option.some.inj ((show Tryd.prog.funcNamed "foundling/foundlinglaw14.CodeDecodes" = some 4 by kernel_rfl).symm.trans hf) |>.symm
      obtain rfl : fn = Tryd.f4 := (Option.some.inj (Tryd.func4.symm.trans hfn)).symm
      exact ⟨by kernel_rfl, fun j t ht => by
        have hall : (Tryd.f4.params.all fun t => !Tryd.prog.wantsStandIn t) = true := by kernel_rfl
        rw [Array.all_eq_true_iff_forall_mem] at hall
        have := hall t (Array.mem_of_getElem? ht)
        show Tryd.prog.wantsStandIn t = false
        simpa using this⟩)
    (by kernel_rfl)
end Go.Proofs.YtnajgpefmknmpaaDoor.codeDecodes
