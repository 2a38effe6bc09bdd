/- PackNumbers: a number's lowest bytes are laid behind others, and read from the beginning: for every bytes, number and count. -/
import Derived.Test.YtmbfkagoiijjmaaDoorPackNum
import Derived.Test.YtmbfkagoiijjmaaDoorTie
import Derived.Test.YtmbfkagoiijjmaaDoorCards
import Derived.ChangeOld
namespace Go.Proofs.YtmbfkagoiijjmaaDoor.packNumbers
open Go.ChangeShapes Go.WideShapes Go.ChangeAt Go.RowKit
set_option linter.unusedVariables false
set_option maxRecDepth 100000 in
set_option maxHeartbeats 1000000 in
theorem walk (v : Value) (l : List UInt8) (x : Nat) (hx : x < 18446744073709551616) (n : Int) (w : World) (h : BytesAt w v l) (hT : TabAt 0 Lib.deBruijn64tab w) :
    Calls Tryd.prog 4 #[v, .int .u64 (x : Int), .int .i64 n] w fun e w' => e = .returned (.bool true) ∧ Below w.heap.size w w' := by
  have H := Lib.hid h; have HT := Lib.hid hT
  clear h hT
  go_enter Tryd.func4, Tryd.ntmps4
  go_wp2_with fail
  refine (awake_any _ HT.out).mono ?_
  rintro e w1 ⟨rfl, hg⟩
  have H1 := Lib.hid (H.out.later hg)
  have HG1 := Lib.hid hg; clear hg
  go_wp2_with fail
  refine (short_any v l 200 (by omega) w1 H1.out).mono ?_
  rintro e w1' ⟨v', rfl, hb, rfl⟩
  have HB := Lib.hid hb; clear hb
  have hl2 : (l.take 200).length ≤ 200 := by rw [List.length_take]; omega
  clear H H1
  generalize l.take 200 = m at *
  clear l
  go_wp2_with fail
  refine (spare_any v' m w1' HB.out (by omega)).mono ?_
  rintro e w2 ⟨g, c, rfl, hb1, hb2, hg⟩
  have HI := Lib.hid hb1; have HA := Lib.hid hb2
  have HB2 := Lib.hid (HB.out.later hg)
  have HG2 := Lib.hid (HG1.out.trans (hg.mono HG1.out.size)); clear hg hb1 hb2
  go_wp2_with fail
  refine (put_any _ m x n w2 HI.out (by omega)).mono ?_
  rintro e w3 ⟨v3, rfl, ho, hg⟩
  have hlen : (m ++ leBytes x (clip8 n)).length = m.length + clip8 n := by rw [List.length_append, leBytes_len]
  have hc8 : clip8 n ≤ 8 := by unfold clip8; omega
  obtain ⟨a3, c3, rfl⟩ := ownsB_shape ho
  rw [hlen]
  have HO3 := Lib.hid ho
  have HL := Lib.hid hlen
  have HI3 := Lib.hid (HI.out.later hg); have HB3 := Lib.hid (HB2.out.later hg); have HA3 := Lib.hid (HA.out.later hg)
  have HG3 := Lib.hid hg; clear hg ho hlen
  have hrel : (decide (clip8 n ≤ m.length) = true ∧ (if clip8 n ≤ m.length then (0 : Int) else 4) = 0) ∨ (decide (clip8 n ≤ m.length) = false ∧ (if clip8 n ≤ m.length then (0 : Int) else 4) = 4) := by
    by_cases hcl : clip8 n ≤ m.length
    · exact Or.inl ⟨decide_eq_true hcl, if_pos hcl⟩
    · exact Or.inr ⟨decide_eq_false hcl, if_neg hcl⟩
  have G := Lib.hid (get_any _ m n w3 HI3.out)
  have R := Lib.hid (rget_any _ m n w3 HB3.out)
  have P := Lib.hid (rput_any v' m x hx n w3 HB3.out (by omega))
  generalize (if clip8 n ≤ m.length then (0 : Int) else 4) = en at *
  generalize decide (clip8 n ≤ m.length) = okb at *
  generalize getN m n = got at *
  generalize clip8 n = cl at *
  have HREL := Lib.hid hrel; clear hrel
  go_wp2_with fail
  refine G.out.mono ?_
  rintro e w3' ⟨rfl, rfl⟩
  go_wp2_with fail
  refine R.out.mono ?_
  rintro e w3'' ⟨rfl, rfl⟩
  go_upto_region 8 with fail
  go_cut [71] from 40 to 70 (fun s wx => s = .bool false ∧ Below w3''.heap.size w3'' wx)
  case first =>
    rcases HREL.out with ⟨rfl, rfl⟩ | ⟨rfl, rfl⟩
    all_goals (
      go_wp2_with fail
      refine P.out.mono ?_
      rintro e w4 ⟨v4, rfl, ho4, hg4⟩
      have HO4 := Lib.hid (bytes_of_owns ho4)
      have HO34 := Lib.hid (owns_later HO3.out hg4)
      have HA4 := Lib.hid (HA3.out.later hg4); have HB4 := Lib.hid (HB3.out.later hg4)
      have HG4 := Lib.hid hg4; clear hg4 ho4
      have E := Lib.hid (requal_any _ v4 _ _ w4 (bytes_of_owns HO34.out) HO4.out)
      rw [beq_self_eq_true, HL.out] at E
      have K := Lib.hid (kept_yes _ v' m w4 (by omega) HA4.out HB4.out)
      go_wp2_with fail
      refine E.out.mono ?_
      rintro e w4' ⟨rfl, rfl⟩
      go_wp2_with fail
      refine K.out.mono ?_
      rintro e w5 ⟨rfl, hg5⟩
      have HG5 := Lib.hid (HG4.out.trans (hg5.mono HG4.out.size)); clear hg5
      go_wp2_with fail
      go_meet
      exact ⟨rfl, HG5.out⟩)
  case rest =>
    obtain ⟨rfl, hg⟩ := hcut
    have hoc : OwnsB wc w2.heap.size _ _ := owns_later HO3.out hg
    rw [HL.out] at hoc
    have HOc := Lib.hid hoc; clear hoc
    have HGc := Lib.hid (HG3.out.trans (hg.mono HG3.out.size)); clear hg
    have hlm := HL.out
    have hcl8 : cl ≤ 8 := hc8
    generalize m ++ leBytes x cl = L0 at *
    have HZ := Lib.hid (fun wr (hw : Below w2.heap.size w2 wr) => kept_yes _ v' m wr (by omega) (HA.out.later hw) (HB2.out.later hw))
    have HF := Lib.hid (fun wr (hw : Below w2.heap.size w2 wr) => HG2.out.trans (hw.mono HG2.out.size))
    obtain ⟨a3', c3', hs3, h31, h32, -, -⟩ := (bytes_of_owns HOc.out)
    injection hs3 with hs1 hs2 hs3
    clear hs1 hs2
    subst hs3
    unfold maxLen at h32
    rw [hlm] at h31
    have HLM := Lib.hid hlm; clear hlm
    have hN9 : m.length + cl ≤ 208 := by omega
    clear HL HO3
    generalize m.length + cl = N at *
    go_wp2_with fail
    go_loopg [14, 74] (N) (fun gg s14 i wr => ∃ (k : Nat) (L : List UInt8), gg = N - k ∧ k ≤ N ∧ i = .int .i64 k ∧ L.length = N ∧ OwnsB wr w2.heap.size (.slice a3 (N) c3) L ∧ Below w2.heap.size w2 wr)
    case atStart => exact ⟨0, L0, rfl, by omega, rfl, HLM.out, HOc.out, HGc.out⟩
    case round =>
      obtain ⟨k, L, hgk, hk, rfl, hLl, ho, hb⟩ := hrel
      have HK := Lib.hid hgk; have HB := Lib.hid hb; clear hgk
      by_cases hlt : k < N
      · obtain ⟨g3, c8, ha3, hB3, hg3, hcell, hcb, hfz, hset⟩ := owns_turn ho hLl hlt
        subst ha3
        obtain ⟨L', hL', hs'⟩ := hset (c8 ^^^ 255) (Nat.xor_lt_two_pow (n := 8) hcb (by omega))
        have hbs := hb.setCell (p := ⟨g3, k, none⟩) hB3 (.int .u8 ((c8 ^^^ 255 : Nat) : Int))
        have a1 : bits BinOp.xor IntKind.u8 (c8 : Int) 255 = ((c8 ^^^ 255 : Nat) : Int) := u8_xor_nat c8 255 hcb (by omega)
        have HS := Lib.hid hs'; have HBS := Lib.hid hbs; have HLS := Lib.hid hL'
        clear hset hs' hbs ho hb hL' hLl
        go_wp2_with fail
        go_roundg (N - (k + 1))
        case measure => rw [HK.out]; omega
        case rel => exact ⟨k + 1, L', rfl, by omega, by go_num, HLS.out, HS.out, HBS.out⟩
      · obtain rfl : k = N := by omega
        have K := Lib.hid (HZ.out wr HB.out)
        clear ho hb hLl
        go_wp2_with fail
        refine K.out.mono ?_
        rintro e w7 ⟨rfl, hg7⟩
        have HG7 := Lib.hid ((HF.out wr HB.out).trans (hg7.mono (HF.out wr HB.out).size)); clear hg7
        go_wp2_with fail
        go_ret
        exact ⟨rfl, HG7.out⟩
theorem own : ownKnob Tryd.prog.godebug = none := by kernel_rfl
theorem laidOut : laidOutB Tryd.prog = true := by kernel_rfl
set_option maxRecDepth 100000 in
theorem lifted (os : Os) (started : os.Started) (H : Type) (enc : TypeId × Value → H) :
    ReturnsInHanded {} Tryd.checked os 4 .any (fun w args => (Rows.packNumbersSpec.pre enc Tryd.prog Tryd.f4 Rows.packNumbersRow.domain false w args ∧ laidMet Tryd.prog Rows.packNumbersRow.laid w) ∧ sizedMet enc Tryd.prog Tryd.f4 (OpenSpec.ofChange Rows.packNumbersSpec) false w args)
      (Rows.packNumbersSpec.post enc Tryd.prog Tryd.f4 false true false false) := by
  refine returnsInHanded_of_change_and (C := Tryd.checked) (X := fun w _ => laidMet Tryd.prog Rows.packNumbersRow.laid w) (fun _ _ _ hh h => h.of_heap hh) own started (by kernel_rfl) Tryd.func4
    (ChangeSpec.witness_at (enc := enc) (C := Tryd.checked) (os := os) (X := fun w _ => laidMet Tryd.prog Rows.packNumbersRow.laid w) false (laidWorld os) #[.slice none 0 0, .int .u64 0, .int .i64 0] 8 rfl (by kernel_rfl) (by kernel_rfl) (by kernel_rfl) (by kernel_rfl) (by kernel_rfl) (laid_met os _)) ?_
  intro W base args ds gs before hval0 hW hcnd hsz0 hL _
  have hval : ∀ (j : Nat) t v, Tryd.f4.params[j]? = some t → args[j]? = some v → Value.okWide Tryd.prog W .any base t v := hval0
  have hW' := hW
  obtain ⟨p, q, hA0, hV, rfl, hfz, hnd⟩ := hW
  have hA : DataW.TrodAll enc Tryd.prog W 0 (fun _ => true) true Tryd.f4.params.toList args.toList ds p := hA0
  rw [Tryd.params4] at hA hval
  obtain ⟨v0, vs0, d0, ds0, p0, q0, hargs, rfl, rfl, h0, r0⟩ := trodAll_cons hA
  obtain ⟨v1, vs1, d1, ds1, p1, q1, rfl, rfl, rfl, h1, r1⟩ := trodAll_cons r0
  obtain ⟨v2, vs2, d2, ds2, p2, q2, rfl, rfl, rfl, h2, r2⟩ := trodAll_cons r1
  obtain ⟨rfl, rfl, rfl⟩ := trodAll_nil r2
  obtain rfl : args = #[v0, v1, v2] := by cases args; simp_all
  obtain ⟨rfl, rfl⟩ := trodVars_none hV
  have k0 := h0
  have lt0 : ∀ x ∈ p0, x.block < W.heap.size := by obtain ⟨m, hm⟩ := k0; exact DataW.trod_lt m _ _ _ hm
  have k1 := h1
  have lt1 : ∀ x ∈ p1, x.block < W.heap.size := by obtain ⟨m, hm⟩ := k1; exact DataW.trod_lt m _ _ _ hm
  have k2 := h2
  have lt2 : ∀ x ∈ p2, x.block < W.heap.size := by obtain ⟨m, hm⟩ := k2; exact DataW.trod_lt m _ _ _ hm
  obtain ⟨l, hl⟩ := open_bytes (hval 0 22 v0 rfl rfl) h0
  obtain ⟨x, rfl, -, -, hx⟩ := open_int Tryd.underlying35 (hval 1 35 v1 rfl rfl) h1
  obtain ⟨n, rfl, -, -, hn⟩ := open_int Tryd.underlying3 (hval 2 3 v2 rfl rfl) h2
  have bx := bounds_u64 hx
  obtain ⟨x, rfl⟩ := Int.eq_ofNat_of_zero_le bx.1
  have hT := tab_of_laid hL
  clear hA0 hval0
  refine (walk v0 l x (by omega) n W hl hT).mono fun e W' ⟨he, bel⟩ => ?_
  subst he
  exact ⟨_, rfl, _, _, _, [], _, [], hW', trodAll_mk1 (shut_bool Tryd.underlying4 _), (trodAll_cons_mk (Below.trod laidOut (by kernel_rfl) (of_decide_eq_true (by kernel_rfl)) k0 bel lt0) (trodAll_cons_mk (Below.trod laidOut (by kernel_rfl) (of_decide_eq_true (by kernel_rfl)) k1 bel lt1) (trodAll_cons_mk (Below.trod laidOut (by kernel_rfl) (of_decide_eq_true (by kernel_rfl)) k2 bel lt2) trodAll_mk0))), rfl, bel.frame _, fun h => by cases h⟩
theorem over : Rows.packNumbersRow.holds Tryd.pinned (OpenSpec.ofChange Rows.packNumbersSpec) :=
  OpenClaim.holds_of_wide 4 Tryd.f4 rfl rfl rfl rfl rfl rfl rfl ⟨rfl, rfl, rfl, rfl, rfl⟩ rfl rfl rfl rfl rfl (by kernel_rfl) Tryd.func4 (by kernel_rfl)
    (of_decide_eq_true (by kernel_rfl)) (by unfold Func.isWrapper; rw [if_neg (by decide +kernel)]; exact ⟨rfl, rfl⟩)
    (fun os started H enc _ => lifted os started H enc)
theorem proved : Rows.PackNumbersCardSaid :=
  Claim7.holds_tied_plain_at .later [] [.data] true (true, "d027a49ad6245683e2388a9bf0917ed7bf2ed7afc987c7a54defa697072aefb8") false
    over (fun _ h => by cases h) (by kernel_rfl) (fun _ h => by cases h) packNumbers_row_tie rfl ⟨rfl, rfl⟩ (by kernel_rfl) rfl
    (fun f fn hf hfn => by
      obtain rfl : f = 4 := Option.some.inj ((show Tryd.prog.funcNamed "foundling/foundlinglaw02.PackNumbers" = some 4 by kernel_rfl).symm.trans hf) |>.symm
      obtain rfl : fn = Tryd.f4 := (Option.some.inj (Tryd.func4.symm.trans hfn)).symm
      exact ⟨by kernel_rfl, fun j t ht => by
        have hall : (Tryd.f4.params.all fun t => !Tryd.prog.wantsStandIn t) = true := by kernel_rfl
        rw [Array.all_eq_true_iff_forall_mem] at hall
        have := hall t (Array.mem_of_getElem? ht)
        show Tryd.prog.wantsStandIn t = false
        simpa using this⟩)
    (by kernel_rfl)
end Go.Proofs.YtmbfkagoiijjmaaDoor.packNumbers
