/- PackWords: words are laid as bytes, and read back; bytes that are no words are refused: for every words and bytes. -/
import Derived.Test.YtffmkmhnhecmnaaDoorPackWf
import Derived.Test.YtffmkmhnhecmnaaDoorPackLaid
import Derived.Test.YtffmkmhnhecmnaaDoorTie
import Derived.Test.YtffmkmhnhecmnaaDoorCards
import Derived.ChangeOld
import Derived.Deep.CutBlock
namespace Go.Proofs.YtffmkmhnhecmnaaDoor.packWords
open Go.ChangeShapes Go.WideShapes Go.ChangeAt Go.RowKit
set_option linter.unusedVariables false
theorem grown_refl (w : World) (r : Option Nat) : w.grownBy w r := ⟨rfl, rfl, rfl, Nat.le_refl _, fun _ _ _ => rfl⟩
theorem wpList_append_row {P : Program} {w : World} {ops : Array Oper} {rest : List Oper} {o : Oper} {a : Act} {Q : Exit → Act → World → Prop} (hgd : o.guard = none) (s x : Operand) (t : TypeId)
    (ho : o.op = .call { callee := .builtin .append, args := #[s, x], argTypes := #[t, t] })
    (base : Nat) (e : TypeId) (i : TypeInfo) (z : Value) (size bytes : Nat) (ht : P.underlying t = some (.slice e)) (hi : P.info? e = some i) (hz : i.zero = some z)
    (hsize : i.size = size) (hby : i.bytes = bytes) (hzs : z.cells.size = size) (hsz : 0 < size)
    (v : Value) (n : Nat) (xs : List Value) (hs : a.eval s = v) (hown : w.ownsRow base e size v n xs)
    (ad : Option Addr) (m c : Nat) (news : List Value) (hx : a.eval x = .slice ad m c) (hl : news.length = m * size) (hnews : RowAt w ad news) (hnone : ad = none → c = 0) (hmc : m ≤ c) (h1 : ∀ u ∈ news, u.oneCell' = true)
    (h63 : n + m ≤ maxLen) (hbytes : (n + m) * bytes ≤ 140737488355328) (hbase : base ≤ w.heap.size)
    (h : ∀ v' w', w'.ownsRow base e size v' (n + m) (xs ++ news) → w.grownBy w' v.ownBlock → wpList P ops Q rest (a.put o.dst v') w') : wpList P ops Q (o :: rest) a w := by
  cases ad with
  | none =>
    have hc := hnone rfl
    subst hc
    obtain rfl : m = 0 := by omega
    obtain rfl : news = [] := List.length_eq_zero_iff.1 (by omega)
    refine wpList_append_own_none hgd s x t ho base e i size ht hi v n xs hs hown hx (h v w ?_ (grown_refl _ _))
    rw [List.append_nil]; exact hown
  | some ad => exact wpList_append_own w hgd s x t ho base e i z size bytes ht hi hz hsize hby hzs hsz v n xs hs hown ad m c news hx hl hnews.add h1 h63 hbytes hbase (fun v' w' h1 h2 _ => h v' w' h1 h2)
set_option maxRecDepth 100000 in
set_option maxHeartbeats 1000000 in
theorem walk (v u : Value) (l : List Nat) (b : List UInt8) (w : World) (hl : WordsAt w v l) (hs : SmallW l) (hb : BytesAt w u b) (hT : TabAt 0 Lib.deBruijn64tab w) :
    Calls Tryd.prog 5 #[v, u] w fun e w' => e = .returned (.bool true) ∧ Below w.heap.size w w' := by
  obtain ⟨i0, hi, hz0, hz1, hz2⟩ := info_parts u64Info
  have HL := Lib.hid hl; have HB := Lib.hid hb; have HT := Lib.hid hT
  obtain ⟨a, cap, rfl, hc1, hc2, -, -⟩ := hl
  unfold maxLen at hc2
  clear hb hT
  go_enter Tryd.func5, Tryd.ntmps5
  go_wp2_with fail
  refine (awake_any _ HT.out).mono ?_
  rintro e w1 ⟨rfl, hg⟩
  have HL1 := Lib.hid (HL.out.later hg)
  have HB1 := Lib.hid (HB.out.later hg)
  have HG1 := Lib.hid hg; clear hg
  go_upto_if 15 with fail
  go_cut [0] from 13 to 17 (fun s0 wx => s0 = .slice a (l.take 100).length cap ∧ wx = w1)
  case first =>
    by_cases hlong : 100 < l.length
    · have hlt : (l.take 100).length = 100 := by rw [List.length_take]; omega
      go_wp2_with fail
      all_goals (try (exfalso; go_light; omega))
      all_goals go_meet
      all_goals (rw [hlt]; exact ⟨rfl, rfl⟩)
    · have hlt : (l.take 100).length = l.length := by rw [List.length_take]; omega
      go_wp2_with fail
      all_goals (try (exfalso; go_light; omega))
      all_goals go_meet
      all_goals (rw [hlt]; exact ⟨rfl, rfl⟩)
  case rest =>
    obtain ⟨rfl, hwc⟩ := hcut
    subst hwc
    have hm := HL1.out.take ((l.take 100).length) (by rw [List.length_take]; omega)
    rw [show l.take (l.take 100).length = l.take 100 by rw [List.length_take]; rcases Nat.lt_or_ge 100 l.length with h | h; rw [Nat.min_eq_left (by omega)]; rw [Nat.min_eq_right h, List.take_of_length_le (by omega), List.take_of_length_le h]] at hm
    have HM := Lib.hid hm
    have hms : SmallW (l.take 100) := fun x hx => hs x (List.mem_of_mem_take hx)
    have hml : (l.take 100).length ≤ 100 := by rw [List.length_take]; omega
    clear hm HL HL1 hs hc1
    generalize l.take 100 = m at *
    have HMS := Lib.hid hms
    clear hms
    go_wp2_with fail
    refine (short_any u b 500 (by omega) _ HB1.out).mono ?_
    rintro e w2 ⟨u', rfl, hb2, hw2⟩
    subst hw2
    have HB2 := Lib.hid hb2
    have hbl : (b.take 500).length ≤ 500 := by rw [List.length_take]; omega
    clear hb2 HB1 HB
    generalize b.take 500 = d at *
    obtain ⟨ua, ucap, rfl, -, -, -, -⟩ := HB2.out
    obtain ⟨ma, mcap, hme, mc1, mc2, mc3, mc4⟩ := HM.out
    injection hme with e1 e2 e3
    subst e1 e3
    have MC3 := Lib.hid mc3; have MC4 := Lib.hid mc4
    clear mc3 mc4
    have ho : (w2.alloc (.cells #[] 35)).ownsRow w2.heap.size 35 1 (.slice (some ⟨w2.heap.size, 0, none⟩) 0 0) 0 [] := World.ownsRow_lit w2 #[] 0 (Nat.le_refl _) (by decide) rfl
    go_wp2_with (at_builtin; go_loud (refine wpList_append_row rfl _ _ 46 rfl w2.heap.size 35 i0 _ 1 8 Tryd.underlying46 hi hz0 hz1 hz2 rfl (by decide) _ _ _ rfl ho a m.length cap (wordVals m) rfl (by rw [wordVals_length]; omega) (MC3.out.later ?b1) MC4.out mc1 ?c2 ?c3 ?c4 ?c5 ?_))
    case b1 => repeat (first | with_reducible exact Below.refl _ _ | ((with_reducible refine Below.setCell ?_ ?_ _); rotate_left; focus (first | (simp; done) | (simp; omega) | omega)) | ((with_reducible refine Below.alloc ?_ ?_ _); rotate_left; focus (first | (simp; done) | (simp; omega) | omega)) | (with_reducible refine Below.drew ?_))
    case c2 => intro x hx; simp only [wordVals, List.mem_map] at hx; obtain ⟨y, _, rfl⟩ := hx; rfl
    case c3 => unfold maxLen; omega
    case c4 => omega
    case c5 => simp
    intro z w3 hz hgr
    have hb3 : Below w2.heap.size w2 w3 := ((Below.refl _ w2).alloc (Nat.le_refl _) _).grown hgr (by simp) (fun q hq => (ho.lt q hq).1)
    have HZ := Lib.hid (words_of_owns hz)
    have HM3 := Lib.hid (HM.out.later hb3)
    have HB3 := Lib.hid (HB2.out.later hb3)
    have HG3 := Lib.hid (HG1.out.trans (hb3.mono HG1.out.size))
    clear hz hgr hb3 ho MC3 MC4
    go_wp2_with fail
    refine (words_any z m w3 HZ.out HMS.out (by omega)).mono ?_
    rintro e w4 ⟨x, rfl, ho4, hg4⟩
    have HX4 := Lib.hid (bytes_of_owns ho4)
    have HM4 := Lib.hid (HM3.out.later hg4)
    have HB4 := Lib.hid (HB3.out.later hg4)
    have HG4 := Lib.hid (HG3.out.trans (hg4.mono HG3.out.size))
    obtain ⟨xa, xc, rfl⟩ := ownsB_shape ho4
    clear ho4 hg4
    go_wp2_with fail
    refine (unwords_yes _ (wordsL m) m.length w4 HX4.out (wordsL_len m) (by omega)).mono ?_
    rintro e w5 ⟨y, rfl, ho5, hg5⟩
    rw [wordsOf_words m HMS.out] at ho5
    have HY5 := Lib.hid (words_of_owns ho5)
    have HX5 := Lib.hid (HX4.out.later hg5)
    have HM5 := Lib.hid (HM4.out.later hg5)
    have HB5 := Lib.hid (HB4.out.later hg5)
    have HG5 := Lib.hid (HG4.out.trans (hg5.mono HG4.out.size))
    obtain ⟨ya, yc, rfl, -⟩ := row_of_owns_any ho5
    clear ho5 hg5
    go_wp2_with fail
    refine (rwords_any _ m w5 HM5.out HMS.out (by omega)).mono ?_
    rintro e w6 ⟨t, rfl, ho6, hg6⟩
    have HT6 := Lib.hid (bytes_of_owns ho6)
    have HX6 := Lib.hid (HX5.out.later hg6)
    have HY6 := Lib.hid (HY5.out.later hg6)
    have HM6 := Lib.hid (HM5.out.later hg6)
    have HB6 := Lib.hid (HB5.out.later hg6)
    have HG6 := Lib.hid (HG5.out.trans (hg6.mono HG5.out.size))
    obtain ⟨ta, tc, rfl⟩ := ownsB_shape ho6
    clear ho6 hg6
    go_wp2_with fail
    refine (requal_any _ _ _ _ w6 HX6.out HT6.out).mono ?_
    rintro e w7 ⟨rfl, hw7⟩
    subst hw7
    rw [show (wordsL m == wordsL m) = true by simp]
    go_wp2_with fail
    refine (same_any _ _ m m _ HY6.out HM6.out).mono ?_
    rintro e w8 ⟨rfl, hg8⟩
    rw [decide_eq_true rfl]
    have HB8 := Lib.hid (HB6.out.later hg8)
    have HG8 := Lib.hid (HG6.out.trans (hg8.mono HG6.out.size))
    clear hg8
    go_wp2_with fail
    refine (copy_any _ d w8 HB8.out (by omega)).mono ?_
    rintro e w9 ⟨k, rfl, ho9, hg9⟩
    have HK9 := Lib.hid (bytes_of_owns ho9)
    have HB9 := Lib.hid (HB8.out.later hg9)
    have HG9 := Lib.hid (HG8.out.trans (hg9.mono HG8.out.size))
    obtain ⟨ka, kc, rfl⟩ := ownsB_shape ho9
    clear ho9 hg9
    by_cases h8 : d.length % 8 = 0
    · obtain ⟨n, hn'⟩ : ∃ n, d.length = 8 * n := ⟨d.length / 8, by omega⟩
      have HN := Lib.hid hn'
      have hn2 : n ≤ 100 := by omega
      clear hn' h8
      go_wp2_with fail
      refine (unwords_yes _ d n w9 HK9.out HN.out (by omega)).mono ?_
      rintro e wa ⟨p, rfl, hoa, hga⟩
      have HPa := Lib.hid (words_of_owns hoa)
      have HBa := Lib.hid (HB9.out.later hga)
      have HGa := Lib.hid (HG9.out.trans (hga.mono HG9.out.size))
      obtain ⟨pa, pc, rfl, -⟩ := row_of_owns_any hoa
      clear hoa hga
      go_wp2_with fail
      refine (runwords_yes _ d n wa HBa.out HN.out (by omega)).mono ?_
      rintro e wb ⟨r, rfl, hob, hgb⟩
      have HRb := Lib.hid (words_of_owns hob)
      have HPb := Lib.hid (HPa.out.later hgb)
      have HGb := Lib.hid (HGa.out.trans (hgb.mono HGa.out.size))
      obtain ⟨ra, rc, rfl, -⟩ := row_of_owns_any hob
      clear hob hgb
      go_wp2_with fail
      refine (same_any _ _ _ _ wb HPb.out HRb.out).mono ?_
      rintro e wd ⟨rfl, hgd⟩
      rw [decide_eq_true rfl]
      have HGd := Lib.hid (HGb.out.trans (hgd.mono HGb.out.size))
      clear hgd
      go_wp2_with fail
      go_ret
      exact ⟨rfl, HGd.out⟩
    · have H8 := Lib.hid h8
      clear h8
      go_wp2_with fail
      refine (unwords_no _ d w9 HK9.out H8.out).mono ?_
      rintro e wa ⟨rfl, hwa⟩
      subst hwa
      go_wp2_with fail
      refine (runwords_no _ d _ HB9.out H8.out).mono ?_
      rintro e wb ⟨rfl, hwb⟩
      subst hwb
      have hnil : ∀ W, WordsAt W (.slice none 0 0) [] := fun W => ⟨none, 0, rfl, Nat.le_refl _, by unfold maxLen; omega, Or.inl rfl, fun _ => rfl⟩
      have SN := Lib.hid (fun W => same_any _ _ [] [] W (hnil W) (hnil W))
      rw [decide_eq_true rfl] at SN
      clear hnil
      go_wp2_with fail
      refine (SN.out _).mono ?_
      rintro e wd ⟨rfl, hgd⟩
      have HGd := Lib.hid (HG9.out.trans (hgd.mono HG9.out.size))
      clear hgd
      go_wp2_with fail
      go_ret
      exact ⟨rfl, HGd.out⟩
theorem own : ownKnob Tryd.prog.godebug = none := by kernel_rfl
theorem laidOut : laidOutB Tryd.prog = true := by kernel_rfl
set_option maxRecDepth 100000 in
theorem lifted (os : Os) (started : os.Started) (H : Type) (enc : TypeId × Value → H) :
    ReturnsInHanded {} Tryd.checked os 5 .any (fun w args => (Rows.packWordsSpec.pre enc Tryd.prog Tryd.f5 Rows.packWordsRow.domain false w args ∧ laidMet Tryd.prog Rows.packWordsRow.laid w) ∧ sizedMet enc Tryd.prog Tryd.f5 (OpenSpec.ofChange Rows.packWordsSpec) false w args)
      (Rows.packWordsSpec.post enc Tryd.prog Tryd.f5 false true false false) := by
  refine returnsInHanded_of_change_and (C := Tryd.checked) (X := fun w _ => laidMet Tryd.prog Rows.packWordsRow.laid w) (fun _ _ _ hh h => h.of_heap hh) own started (by kernel_rfl) Tryd.func5
    (ChangeSpec.witness_at (enc := enc) (C := Tryd.checked) (os := os) (X := fun w _ => laidMet Tryd.prog Rows.packWordsRow.laid w) false (laidWorld os) #[.slice none 0 0, .slice none 0 0] 8 rfl (by kernel_rfl) (by kernel_rfl) (by kernel_rfl) (by kernel_rfl) (by kernel_rfl) (laid_met os _)) ?_
  intro W base args ds gs before hval0 hW hcnd hsz0 hL _
  have hval : ∀ (j : Nat) t v, Tryd.f5.params[j]? = some t → args[j]? = some v → Value.okWide Tryd.prog W .any base t v := hval0
  have hW' := hW
  obtain ⟨p, q, hA0, hV, rfl, hfz, hnd⟩ := hW
  have hA : DataW.TrodAll enc Tryd.prog W 0 (fun _ => true) true Tryd.f5.params.toList args.toList ds p := hA0
  rw [Tryd.params5] at hA hval
  obtain ⟨v0, vs0, d0, ds0, p0, q0, hargs, rfl, rfl, h0, r0⟩ := trodAll_cons hA
  obtain ⟨v1, vs1, d1, ds1, p1, q1, rfl, rfl, rfl, h1, r1⟩ := trodAll_cons r0
  obtain ⟨rfl, rfl, rfl⟩ := trodAll_nil r1
  obtain rfl : args = #[v0, v1] := by cases args; simp_all
  obtain ⟨rfl, rfl⟩ := trodVars_none hV
  have k0 := h0
  have lt0 : ∀ x ∈ p0, x.block < W.heap.size := by obtain ⟨m, hm⟩ := k0; exact DataW.trod_lt m _ _ _ hm
  have k1 := h1
  have lt1 : ∀ x ∈ p1, x.block < W.heap.size := by obtain ⟨m, hm⟩ := k1; exact DataW.trod_lt m _ _ _ hm
  obtain ⟨nl, hnl⟩ := open_nums Tryd.underlying46 Tryd.underlying35 (by kernel_rfl) (hval 0 46 v0 rfl rfl) h0
  obtain ⟨l, hl, hs⟩ := words_of_nums hnl
  obtain ⟨b, hb⟩ := open_bytes (hval 1 22 v1 rfl rfl) h1
  have hT := tab_of_laid hL
  clear hA0 hval0
  refine (walk v0 v1 l b W hl hs hb hT).mono fun e W' ⟨he, bel⟩ => ?_
  subst he
  exact ⟨_, rfl, _, _, _, [], _, [], hW', trodAll_mk1 (shut_bool Tryd.underlying4 _), (trodAll_cons_mk (Below.trod laidOut (by kernel_rfl) (of_decide_eq_true (by kernel_rfl)) k0 bel lt0) (trodAll_cons_mk (Below.trod laidOut (by kernel_rfl) (of_decide_eq_true (by kernel_rfl)) k1 bel lt1) trodAll_mk0)), rfl, bel.frame _, fun h => by cases h⟩
theorem over : Rows.packWordsRow.holds Tryd.pinned (OpenSpec.ofChange Rows.packWordsSpec) :=
  OpenClaim.holds_of_wide 5 Tryd.f5 rfl rfl rfl rfl rfl rfl rfl ⟨rfl, rfl, rfl, rfl, rfl⟩ rfl rfl rfl rfl rfl (by kernel_rfl) Tryd.func5 (by kernel_rfl)
    (of_decide_eq_true (by kernel_rfl)) (by unfold Func.isWrapper; rw [if_neg (by decide +kernel)]; exact ⟨rfl, rfl⟩)
    (fun os started H enc _ => lifted os started H enc)
theorem proved : Rows.PackWordsCardSaid :=
  Claim7.holds_tied_plain_at .later [] [.data] true (true, "d027a49ad6245683e2388a9bf0917ed7bf2ed7afc987c7a54defa697072aefb8") false
    over (fun _ h => by cases h) (by kernel_rfl) (fun _ h => by cases h) packWords_row_tie rfl ⟨rfl, rfl⟩ (by kernel_rfl) rfl
    (fun f fn hf hfn => by
      obtain rfl : f = 5 := Option.some.inj ((show Tryd.prog.funcNamed "foundling/foundlinglaw02.PackWords" = some 5 by kernel_rfl).symm.trans hf) |>.symm
      obtain rfl : fn = Tryd.f5 := (Option.some.inj (Tryd.func5.symm.trans hfn)).symm
      exact ⟨by kernel_rfl, fun j t ht => by
        have hall : (Tryd.f5.params.all fun t => !Tryd.prog.wantsStandIn t) = true := by kernel_rfl
        rw [Array.all_eq_true_iff_forall_mem] at hall
        have := hall t (Array.mem_of_getElem? ht)
        show Tryd.prog.wantsStandIn t = false
        simpa using this⟩)
    (by kernel_rfl)
end Go.Proofs.YtffmkmhnhecmnaaDoor.packWords
