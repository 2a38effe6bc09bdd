/- LAW CodeEncodes: it returns true whatever the instructions that came in; of the tables that lie laid it asks what the card ties. -/
import Derived.Test.YtnajgpefmknmpaaDoorCodeEncP
import Derived.Test.YtnajgpefmknmpaaDoorTie
import Derived.Test.YtnajgpefmknmpaaDoorCards
import Derived.ChangeOld
import Derived.Deep.Cut
import Derived.Deep.CutRange
import Derived.Deep.CutBlock
namespace Go.Proofs.YtnajgpefmknmpaaDoor.codeEncodes
open Go.ChangeShapes Go.WideShapes Go.ChangeAt Go.RowKit
set_option linter.unusedVariables false
set_option maxRecDepth 100000 in
set_option maxHeartbeats 800000 in
theorem walk (v : Value) (L : List Ins) (w : World) (h : InsAt w v L) (hT : Lib.TabIs Tryd.prog w "internal/strconv.uint64pow10" .u64 Lib.pow10Tab) :
    Calls Tryd.prog 3 #[v] w fun e w' => e = .returned (.bool true) ∧ Below w.heap.size w w' := by
  obtain ⟨i4, ji, jz0, jz1, jz2⟩ := info_parts insInfo
  have AW := Lib.hid (awake_any w hT)
  have H := Lib.hid h
  clear hT
  obtain ⟨a, cap, rfl, hcap, hmx, -, -⟩ := h
  unfold maxLen at hmx
  go_enter Tryd.func3, Tryd.ntmps3
  go_upto_if 20 with (go_at_call 7; refine AW.out.mono ?_; rintro en w1 ⟨rfl, hg1⟩; have HG1 := Lib.hid hg1; clear hg1)
  generalize hbt : decide ((100 : Int) < (L.length : Int)) = t1
  have HBT := Lib.hid hbt; clear hbt
  go_cut [0] from 21 to 22 (fun s0 wx => wx = w1 ∧ ∃ L', InsAt w1 s0 L' ∧ L'.length ≤ 100)
  case first =>
    cases t1
    · have hle : L.length ≤ 100 := by have := of_decide_eq_false HBT.out; omega
      have HA := Lib.hid (H.out.later HG1.out)
      have HLE := Lib.hid hle
      clear hle
      go_wp2_with fail
      go_meet
      exact ⟨rfl, L, HA.out, HLE.out⟩
    · have hle : 100 ≤ L.length := by have := of_decide_eq_true HBT.out; omega
      obtain ⟨v', hv', hsl⟩ := (H.out.later HG1.out).head 100 hle
      have hsl2 : ∀ W, (Instr.slice 22 (.slice a L.length cap) none (some (.int .i64 100)) none).run Tryd.prog W = .ok v' W := hsl
      have HV := Lib.hid hv'
      have HTL := Lib.hid (show (L.take 100).length ≤ 100 by rw [List.length_take]; omega)
      generalize L.length = n at *
      clear hsl hv' hle
      go_wp2_with fail
      go_meet
      exact ⟨rfl, _, HV.out, HTL.out⟩
  case rest =>
    obtain ⟨hwc, M, hM, hM1⟩ := hcut
    obtain rfl := hwc.symm
    have HM := Lib.hid hM
    obtain ⟨ma, mc, hu, hmc, hmm2, -, hok⟩ := hM
    obtain ⟨v0, hv0⟩ : ∃ v0, v0 = u0 := ⟨_, rfl⟩
    rw [← hv0] at hu HM ⊢
    clear hv0
    subst hu
    have HOK := Lib.hid hok; clear hok
    unfold maxLen at hmm2
    generalize hmn : M.length = m at *
    have HMN := Lib.hid hmn; clear hmn
    clear HBT AW H
    generalize L.length = n0 at *
    generalize hbw : w1.heap.size = bw at *
    have HBW := Lib.hid hbw; clear hbw
    go_wp2_with fail
    go_loopg [3, 25] m (fun g s3 s25 wr => ∃ k : Nat, g = m - k ∧ k ≤ m ∧ s25 = .int .i64 k ∧ OwnsIn wr bw s3 (M.take k) ∧ Below bw w1 wr)
    case atStart => exact ⟨0, rfl, by omega, rfl, World.ownsRow_nil _ _ _ _, Below.refl _ _⟩
    case round =>
      obtain ⟨k, hgk, hk, rfl, hO, hB⟩ := hrel
      have HK := Lib.hid hgk; have HO := Lib.hid hO; have HB := Lib.hid hB
      clear hgk hO hB
      by_cases hlt : k < m
      · have hkl : k < M.length := by rw [HMN.out]; exact hlt
        have hMr := HM.out.later (by rw [HBW.out]; exact HB.out)
        have hs : bw ≤ wr.heap.size := by have := HB.out.size; rwa [HBW.out] at this
        obtain ⟨b, o, c2, hv2, -, hbl, hall⟩ := hMr.cells (by rintro rfl; simp at hkl)
        obtain ⟨hI, c0, c1, c2⟩ := hall k hkl
        simp only [Value.slice.injEq] at hv2
        obtain ⟨rfl, -, -⟩ := hv2
        have HT := Lib.hid (show M.take (k + 1) = M.take k ++ [M[k]] from List.take_succ_eq_append_getElem hkl)
        have OW := Lib.hid (fun W => own_any M[k] W)
        generalize M[k] = x at *
        have htl : (M.take k).length = k := by rw [List.length_take]; omega
        have HTL := Lib.hid htl
        clear hMr hall hI htl
        go_wp2_with fail
        refine (OW.out _).mono ?_
        rintro en w3 ⟨rfl, hg3⟩
        have g3 := ((Below.refl wr.heap.size wr).alloc (Nat.le_refl _) (.cells #[.int .i64 x.op, .int .i64 x.a, .int .i64 x.b] 26)).trans (hg3.mono (by simp))
        have O3 := Lib.hid (show w3.ownsRow bw 27 3 u3 k (insL (M.take k)) by have := owns_later HO.out g3; rwa [HTL.out] at this)
        have B3 := Lib.hid (HB.out.trans (g3.mono hs))
        have hs3 := g3.size
        clear hg3 g3
        go_wp2_with (at_builtin; refine wpList_append_own _ rfl _ _ 24 rfl bw 27 i4 (.agg #[.int .i64 0, .int .i64 0, .int .i64 0]) 3 24 Tryd.underlying24 ji jz0 jz1 jz2 rfl (by decide) u3 k (insL (M.take k)) rfl (O3.out.alloc _) ⟨w3.heap.size, 0, none⟩ 1 1 [.int .i64 x.op, .int .i64 x.a, .int .i64 x.b] rfl rfl ?c1 ?c2 ?c3 ?c4 ?c5 ?_)
        case c1 =>
          intro j u hj
          match j, hj with
          | 0, hj => simp at hj; subst hj; simp [Addr.add]
          | 1, hj => simp at hj; subst hj; simp [Addr.add]
          | 2, hj => simp at hj; subst hj; simp [Addr.add]
        case c2 => intro u hu; simp at hu; rcases hu with rfl | rfl | rfl <;> rfl
        case c3 => unfold maxLen; omega
        case c4 => omega
        case c5 => simp; omega
        intro v' w4 hown' hgrow _
        have HO4 := Lib.hid (show OwnsIn w4 bw v' (M.take (k + 1)) by
          rw [HT.out]
          exact ownsIn_push (x := x) (by rw [HTL.out]; exact hown'))
        have HB4 := Lib.hid (Below.grown (B3.out.alloc (by omega) (.cells #[.int .i64 x.op, .int .i64 x.a, .int .i64 x.b] 27)) hgrow (by simp; omega) (fun j hj => (O3.out.lt j hj).1))
        clear hown' hgrow
        go_wp2_with fail
        go_roundg (m - (k + 1))
        case measure => rw [HK.out]; omega
        case rel => exact ⟨k + 1, rfl, by omega, by go_num, HO4.out, HB4.out⟩
      · obtain rfl : k = m := by omega
        have hOw := HO.out
        rw [List.take_of_length_le (by rw [HMN.out]; omega)] at hOw
        have hX := insAt_of_owns hOw HOK.out
        obtain ⟨xa, xc, hxv⟩ := own_shape hOw
        have HX := Lib.hid hX
        have BW := Lib.hid (show Below w.heap.size w wr from HG1.out.trans ((show Below w1.heap.size w1 wr by rw [HBW.out]; exact HB.out).mono HG1.out.size))
        have hM2 := HM.out.later (show Below w1.heap.size w1 wr by rw [HBW.out]; exact HB.out)
        have E1 := Lib.hid (encode_any u3 M wr hX (by rw [HMN.out]; omega))
        have HM2 := Lib.hid hM2
        have LE := Lib.hid (show M.length ≤ 1000 by rw [HMN.out]; omega)
        have hs2 : bw ≤ wr.heap.size := by have := HB.out.size; rwa [HBW.out] at this
        subst hxv
        clear hOw hX hM2
        cases hall : M.all encOk
        · have HALL := Lib.hid hall; clear hall
          go_wp2_with fail
          refine E1.out.mono ?_
          intro en w5 hp5
          obtain ⟨rfl, hg5⟩ := hp5.f HALL.out
          have E2 := Lib.hid (rencode_any (.slice ma k mc) M w5 (HM2.out.later hg5) LE.out)
          have HG5 := Lib.hid hg5; clear hg5 hp5
          go_wp2_with fail
          refine E2.out.mono ?_
          intro en w6 hp6
          obtain ⟨rfl, hg6⟩ := hp6.f HALL.out
          have BX := Lib.hid (BW.out.trans ((HG5.out.trans (hg6.mono HG5.out.size)).mono BW.out.size))
          have EQ := Lib.hid (requal_any (.slice none 0 0) (.slice none 0 0) [] [] w6 (bytes_none w6) (bytes_none w6))
          clear hg6 hp6
          go_wp2_with fail
          refine EQ.out.mono ?_
          rintro en w7 ⟨rfl, hw7⟩
          obtain rfl := hw7.symm
          go_wp2_with fail
          go_ret
          exact ⟨rfl, BX.out⟩
        · have HALL := Lib.hid hall; clear hall
          go_wp2_with fail
          refine E1.out.mono ?_
          intro en w5 hp5
          obtain ⟨v5, rfl, ho5, hg5⟩ := hp5.t HALL.out
          have E2 := Lib.hid (rencode_any (.slice ma k mc) M w5 (HM2.out.later hg5) LE.out)
          have HG5 := Lib.hid hg5; have HO5 := Lib.hid ho5; clear hg5 hp5 ho5
          go_wp2_with fail
          refine E2.out.mono ?_
          intro en w6 hp6
          obtain ⟨v6, rfl, ho6, hg6⟩ := hp6.t HALL.out
          have BX := Lib.hid (BW.out.trans ((HG5.out.trans (hg6.mono HG5.out.size)).mono BW.out.size))
          have hb5 := (bytes_of_owns HO5.out).later hg6
          have hb6 := bytes_of_owns ho6
          have EQ := Lib.hid (requal_any v5 v6 (encAll M) (encAll M) w6 hb5 hb6)
          rw [beq_self_eq_true] at EQ
          have HB5 := Lib.hid hb5
          have HX6 := Lib.hid ((HX.out.later HG5.out).later hg6)
          obtain ⟨ca, cc, rfl, -⟩ := hb5
          clear hb6 hg6 hp6 ho6
          go_wp2_with fail
          refine EQ.out.mono ?_
          rintro en w7 ⟨rfl, hw7⟩
          obtain rfl := hw7.symm
          go_wp2_with fail
          rw [HMN.out]
          have hql : (encAll M).length ≤ 100000 := by have := encAll_le M; rw [HMN.out] at this; omega
          have HQ := Lib.hid hql
          generalize hq : (encAll M).length = q at *
          have HQQ := Lib.hid hq; clear hq
          go_loopg [10, 61] k (fun g s10 s61 wr2 => ∃ j : Nat, g = k - j ∧ j ≤ k ∧ s61 = .int .i64 j ∧ s10 = .int .i64 ((encAll (M.take j)).length : Nat) ∧ Below w6.heap.size w6 wr2)
          case atStart => exact ⟨0, rfl, by omega, rfl, rfl, Below.refl _ _⟩
          case round =>
            obtain ⟨j, hgj, hj, rfl, rfl, hB7⟩ := hrel
            have HJ := Lib.hid hgj; have HB7 := Lib.hid hB7
            clear hgj hB7
            by_cases hlt : j < k
            · have hjl : j < M.length := by rw [HMN.out]; exact hlt
              have hs7 := HB7.out.size
              obtain ⟨b, o, c3, hv2, -, hbl, hall⟩ := (HX6.out.later HB7.out).cells (by rintro rfl; simp at hjl)
              obtain ⟨-, c0, c1, c2⟩ := hall j hjl
              rw [HMN.out] at hv2
              simp only [Value.slice.injEq] at hv2
              obtain ⟨rfl, -, -⟩ := hv2
              have hokx : encOk M[j] = true := List.all_eq_true.1 HALL.out _ (List.getElem_mem hjl)
              have hde := dec_enc (encAll (M.take j)) (encAll (M.drop (j + 1))) M[j] hokx
              rw [← encAll_split M j hjl] at hde
              have hsn := encAll_snoc M j hjl
              have HSN := Lib.hid (show (encAll (M.take (j + 1))).length = (encAll (M.take j)).length + (encB M[j]).length by rw [hsn, List.length_append])
              have HLE := Lib.hid (show (encAll (M.take (j + 1))).length ≤ 100000 by have := encAll_le (M.take (j + 1)); rw [List.length_take] at this; omega)
              have D := Lib.hid (fun W (hW : Below w6.heap.size w6 W) => dec_any (.slice ca q cc) (encAll M) ((encAll (M.take j)).length : Nat) W (HB5.out.later hW) (by rw [HQQ.out]; exact HQ.out))
              rw [hde, ← HSN.out] at D
              generalize M[j] = x at *
              have D2 := Lib.hid (show ∀ W, Below w6.heap.size w6 W → Calls Tryd.prog 12 #[.slice ca q cc, .int .i64 ((encAll (M.take j)).length : Nat)] W fun e w' => e = .returned (.tuple #[.agg #[.int .i64 x.op, .int .i64 x.a, .int .i64 x.b], .int .i64 ((encAll (M.take (j + 1))).length : Nat), .int .i64 0]) ∧ Below W.heap.size W w' from D.out)
              clear hall hde hsn hokx D
              generalize hp2 : (encAll (M.take (j + 1))).length = p2 at *
              have HP2 := Lib.hid hp2; clear hp2
              generalize (encAll (M.take j)).length = p1 at *
              go_wp2_with fail
              refine (D2.out _ (by repeat (first | with_reducible exact Below.refl _ _ | ((with_reducible refine Below.setCell ?_ ?_ _); rotate_left; focus (first | (simp; done) | (simp; omega) | omega)) | ((with_reducible refine Below.alloc ?_ ?_ _); rotate_left; focus (first | (simp; done) | (simp; omega) | omega)) | (with_reducible refine Below.drew ?_) | ((with_reducible refine Below.trans ?_ (Below.mono HB7.out ?_)); rotate_left; focus (first | (simp; done) | (simp; omega) | omega))))).mono ?_
              rintro en w8 ⟨rfl, hg8⟩
              have g8 := ((Below.refl wr.heap.size wr).alloc (Nat.le_refl _) (.cells #[.int .i64 x.op, .int .i64 x.a, .int .i64 x.b] 27)).trans (hg8.mono (by simp))
              have qx := (hg8.block wr.heap.size (by simp)).trans (heap_alloc_new wr _)
              have x0 := cell_of_row w8 _ 0 _ _ _ qx
              have x1 := cell_of_row w8 _ 1 _ _ _ qx
              have x2 := cell_of_row w8 _ 2 _ _ _ qx
              simp at x0 x1 x2
              have hwl := lt_of_cell x0
              have HB8 := Lib.hid (HB7.out.trans (g8.mono hs7))
              clear hg8 g8 qx
              go_wp2_with fail
              go_roundg (k - (j + 1))
              case measure => rw [HJ.out]; omega
              case rel => exact ⟨j + 1, rfl, by omega, by go_num, by rw [HP2.out], by repeat (first | with_reducible exact Below.refl _ _ | ((with_reducible refine Below.setCell ?_ ?_ _); rotate_left; focus (first | (simp; done) | (simp; omega) | omega)) | ((with_reducible refine Below.alloc ?_ ?_ _); rotate_left; focus (first | (simp; done) | (simp; omega) | omega)) | (with_reducible refine Below.drew ?_) | ((with_reducible refine Below.trans ?_ (Below.mono HB8.out ?_)); rotate_left; focus (first | (simp; done) | (simp; omega) | omega)))⟩
            · obtain rfl : j = k := by omega
              have HP := Lib.hid (show (encAll (M.take j)).length = q by rw [List.take_of_length_le (by rw [HMN.out]; omega)]; exact HQQ.out)
              rw [HP.out]
              go_wp2_with fail
              go_ret
              exact ⟨rfl, BX.out.trans (HB7.out.mono BX.out.size)⟩
theorem own : ownKnob Tryd.prog.godebug = none := by kernel_rfl
theorem laidOut : laidOutB Tryd.prog = true := by kernel_rfl
set_option maxRecDepth 100000 in
theorem lifted (os : Os) (started : os.Started) (H : Type) (enc : TypeId × Value → H) :
    ReturnsInHanded {} Tryd.checked os 3 .any (fun w args => (Rows.codeEncodesSpec.pre enc Tryd.prog Tryd.f3 Rows.codeEncodesRow.domain false w args ∧ laidMet Tryd.prog Rows.codeEncodesRow.laid w) ∧ sizedMet enc Tryd.prog Tryd.f3 (OpenSpec.ofChange Rows.codeEncodesSpec) false w args)
      (Rows.codeEncodesSpec.post enc Tryd.prog Tryd.f3 false true false false) := by
  refine returnsInHanded_of_change_and (C := Tryd.checked) (X := fun w _ => laidMet Tryd.prog Rows.codeEncodesRow.laid w) (fun _ _ _ hh h => h.of_heap hh) own started (by kernel_rfl) Tryd.func3
    (ChangeSpec.witness_at (enc := enc) (C := Tryd.checked) (os := os) (X := fun w _ => laidMet Tryd.prog Rows.codeEncodesRow.laid w) false (laidWorld os) #[.slice none 0 0] 8 rfl (by kernel_rfl) (by kernel_rfl) (by kernel_rfl) (by kernel_rfl) (by kernel_rfl) (laid_met os _)) ?_
  intro W base args ds gs before hval0 hW hcnd hsz0 hL _
  have hval : ∀ (j : Nat) t v, Tryd.f3.params[j]? = some t → args[j]? = some v → Value.okWide Tryd.prog W .any base t v := hval0
  have hW' := hW
  obtain ⟨p, q, hA0, hV, rfl, hfz, hnd⟩ := hW
  have hA : DataW.TrodAll enc Tryd.prog W 0 (fun _ => true) true Tryd.f3.params.toList args.toList ds p := hA0
  rw [Tryd.params3] at hA hval
  obtain ⟨v0, vs0, d0, ds0, p0, q0, hargs, rfl, rfl, h0, r0⟩ := trodAll_cons hA
  obtain ⟨rfl, rfl, rfl⟩ := trodAll_nil r0
  obtain rfl : args = #[v0] := by cases args; simp_all
  obtain ⟨rfl, rfl⟩ := trodVars_none hV
  have k0 := h0
  have lt0 : ∀ x ∈ p0, x.block < W.heap.size := by obtain ⟨m, hm⟩ := k0; exact DataW.trod_lt m _ _ _ hm
  obtain ⟨list, hl⟩ := open_inss (hval 0 22 v0 rfl rfl) h0
  have hT := tab_of_laid hL
  clear hA0 hval0
  refine (walk v0 list W hl hT).mono fun e W' ⟨he, bel⟩ => ?_
  subst he
  exact ⟨_, rfl, _, _, _, [], _, [], hW', trodAll_mk1 (shut_bool Tryd.underlying4 _), (trodAll_cons_mk (Below.trod laidOut (by kernel_rfl) (of_decide_eq_true (by kernel_rfl)) k0 bel lt0) trodAll_mk0), rfl, bel.frame _, fun h => by cases h⟩
theorem over : Rows.codeEncodesRow.holds Tryd.pinned (OpenSpec.ofChange Rows.codeEncodesSpec) :=
  OpenClaim.holds_of_wide 3 Tryd.f3 rfl rfl rfl rfl rfl rfl rfl ⟨rfl, rfl, rfl, rfl, rfl⟩ rfl rfl rfl rfl rfl (by kernel_rfl) Tryd.func3 (by kernel_rfl)
    (of_decide_eq_true (by kernel_rfl)) (by unfold Func.isWrapper; rw [if_neg (by decide +kernel)]; exact ⟨rfl, rfl⟩)
    (fun os started H enc _ => lifted os started H enc)
theorem proved : Rows.CodeEncodesCardSaid :=
  Claim7.holds_tied_plain_at .later [] [.data, .data, .data] true (true, "d7c8e61464f1694cb5dba5bc2a5b84bdbbfecf7e2eafed13dcf4db7bf58ed3fa") false
    over (fun _ h => by cases h) (by kernel_rfl) (fun _ h => by cases h) codeEncodes_row_tie rfl ⟨rfl, rfl⟩ (by kernel_rfl) rfl
    (fun f fn hf hfn => by
      obtain rfl : f = 3 := Option.some.inj ((show Tryd.prog.funcNamed "foundling/foundlinglaw14.CodeEncodes" = some 3 by kernel_rfl).symm.trans hf) |>.symm
      obtain rfl : fn = Tryd.f3 := (Option.some.inj (Tryd.func3.symm.trans hfn)).symm
      exact ⟨by kernel_rfl, fun j t ht => by
        have hall : (Tryd.f3.params.all fun t => !Tryd.prog.wantsStandIn t) = true := by kernel_rfl
        rw [Array.all_eq_true_iff_forall_mem] at hall
        have := hall t (Array.mem_of_getElem? ht)
        show Tryd.prog.wantsStandIn t = false
        simpa using this⟩)
    (by kernel_rfl)
end Go.Proofs.YtnajgpefmknmpaaDoor.codeEncodes
