/- Roots: words by places, or as they are. A graph that came in: its kinds and leads. -/
import Derived.Test.YtobajnodckiohaaDoorLayD
namespace Go.Proofs.YtobajnodckiohaaDoor
open Go.RowKit
set_option linter.unusedVariables false
theorem owns_apart {w : World} {B B' e e' s s' n n' : Nat} {v v' : Value} {xs xs' : List Value} (h : w.ownsRow B e s v n xs) (h' : w.ownsRow B' e' s' v' n' xs') (hne : e ≠ e') : v.ownBlock = none ∨ v.ownBlock ≠ v'.ownBlock := by
  rcases h.2 with ⟨hv, -⟩ | ⟨g, cap, cur, hv, -, hg, -⟩
  · rw [hv]; exact Or.inl rfl
  · rcases h'.2 with ⟨hv', -⟩ | ⟨g', cap', cur', hv', -, hg', -⟩
    · rw [hv, hv']; exact Or.inr (by simp [Value.ownBlock])
    · rw [hv, hv']
      refine Or.inr fun e1 => ?_
      simp [Value.ownBlock] at e1
      subst e1
      rw [hg] at hg'
      simp at hg'
      exact hne hg'.2
set_option maxRecDepth 100000 in
set_option maxHeartbeats 1600000 in
theorem roots_any (E : Nat) (lv xv : Value) (os : List RO) (xs : List Nat) (w : World) (ho : RObjs E w lv os) (hx : WordsAt w xv xs) (hxs : ∀ x, x ∈ xs → x < 18446744073709551616) (hsm : ∀ o, o ∈ os → o.at_ ≤ 1000000) (hol : os.length ≤ 20) :
    Calls Tryd.prog 7 #[.agg #[.int .i64 200, lv, .int .u32 0], xv] w fun e w' => ∃ (av bv : Value) (rs : List Nat), e = .returned (.tuple #[av, bv]) ∧ rs.length = min xs.length 6 ∧ (∀ x, x ∈ rs → x < 18446744073709551616) ∧
      w'.ownsRow w.heap.size 38 1 av rs.length (wordVals rs) ∧ w'.ownsRow w.heap.size 37 1 bv rs.length (wordVals rs) ∧ Below w.heap.size w w' := by
  obtain ⟨i1, hi1, hy0, hy1, hy2⟩ := info_parts wordInfo
  obtain ⟨i2, hi2, hc0, hc1, hc2⟩ := info_parts cellInfo
  obtain ⟨la, lc, rfl, l1, l2, l3⟩ := ho.get
  obtain ⟨xa, xc, rfl, x1, x2, x3⟩ := hx.at
  unfold maxLen at l2 x2
  have L3 := Lib.hid l3; have X3 := Lib.hid x3; have HXS := Lib.hid hxs; have HSM := Lib.hid hsm
  clear l3 x3 hxs hsm ho hx
  go_enter Tryd.func7, Tryd.ntmps7
  go_wp2_with fail
  obtain ⟨w1, hw1⟩ : ∃ w1, w1 = w.alloc (.cells #[.int .i64 200, .slice la os.length lc, .int .u32 0] 31) := ⟨_, rfl⟩
  rw [← hw1]
  have hh1 : w1.heap[w.heap.size]? = some (.cells #[.int .i64 200, .slice la os.length lc, .int .u32 0] 31 (0, 0)) := by rw [hw1]; exact heap_alloc_new w _
  have hb1 : Below w.heap.size w w1 := by rw [hw1]; exact (Below.refl _ w).alloc (Nat.le_refl _) _
  have hz1 : w1.heap.size = w.heap.size + 1 := by rw [hw1]; simp
  have H1 := Lib.hid hh1; have B1 := Lib.hid hb1
  clear hw1 hh1 hb1
  go_loopg [6, 7, 8] 7 (fun gg s6 s7 s8 wr => ∃ (i : Nat) (aa : Option Addr) (an ac : Nat) (ba : Option Addr) (bn bc : Nat) (rs : List Nat), gg = 7 - i ∧ i ≤ 6 ∧ i ≤ xs.length ∧ s8 = .int .i64 (i : Int) ∧ s6 = .slice aa an ac ∧ s7 = .slice ba bn bc ∧ rs.length = i ∧ (∀ x, x ∈ rs → x < 18446744073709551616) ∧
    wr.ownsRow (w.heap.size + 1) 38 1 (.slice aa an ac) i (wordVals rs) ∧ wr.ownsRow (w.heap.size + 1) 37 1 (.slice ba bn bc) i (wordVals rs) ∧ Below (w.heap.size + 1) w1 wr)
  case atStart => exact ⟨0, none, 0, 0, none, 0, 0, [], rfl, by omega, by omega, rfl, rfl, rfl, rfl, fun x hx => (by cases hx), World.ownsRow_nil _ _ _ _, World.ownsRow_nil _ _ _ _, Below.refl _ _⟩
  case round =>
    obtain ⟨i, aa, an, ac, ba, bn, bc, rs, hgi, hi6, hix, rfl, rfl, rfl, hrl, hrs, hoa, hob, hbr⟩ := hrel
    have HGI := Lib.hid hgi; have HRS := Lib.hid hrs; have HOA := Lib.hid hoa; have HOB := Lib.hid hob; have HBR := Lib.hid hbr
    have hzr := hbr.size
    clear hgi hrs hoa hob hbr
    by_cases hgo : i < xs.length ∧ i < 6
    · obtain ⟨hg1, hg2⟩ := hgo
      obtain ⟨b, o, rfl, hbl, hcc⟩ := X3.out i hg1
      have hv : xs.getD i 0 < 18446744073709551616 := by
        rw [List.getD_eq_getElem?_getD, List.getElem?_eq_getElem hg1]; exact HXS.out _ (List.getElem_mem _)
      obtain ⟨x, hxe⟩ : ∃ x, xs.getD i 0 = x := ⟨_, rfl⟩
      rw [hxe] at hcc hv
      have BW := Lib.hid (B1.out.trans (HBR.out.mono (by omega)))
      have c0 := (BW.out.cell (p := ⟨b, o + i, none⟩) hbl).trans hcc
      have hh := (HBR.out.block w.heap.size (by omega)).trans H1.out
      have y1 := cellO hh 1
      simp at y1
      have mh : w.heap.size < wr.heap.size := by omega
      clear hh hcc
      have hi' : (i : Int) < 6 := by omega
      go_upto_region 7 with fail
      go_cut [31] from 24 to 30 (fun s31 wx => ∃ t : Bool, s31 = .bool t ∧ (t = true → x ≤ 1000 ∧ 0 < os.length) ∧ wx = wr)
      case first =>
        by_cases h1 : (x : Int) ≤ 1000
        · by_cases h0 : (0 : Int) < os.length
          · go_wp2_with fail
            all_goals go_meet
            all_goals exact ⟨true, by simp; omega, fun _ => ⟨by omega, by omega⟩, rfl⟩
          · have H00 : Hid (os = []) := List.length_eq_zero_iff.1 (by omega)
            go_wp2_with fail
            all_goals go_meet
            all_goals exact ⟨false, by simp; first | omega | exact H00.out, fun h => (by cases h), rfl⟩
        · go_wp2_with fail
          all_goals go_meet
          all_goals exact ⟨false, by simp, fun h => (by cases h), rfl⟩
      case rest =>
        obtain ⟨t, rfl, hxt, hwc⟩ := hcut
        rw [hwc]
        clear hwc
        go_upto_if 31 with fail
        go_cut [9] from 32 to 44 (fun s9 wx => ∃ y : Nat, s9 = .int .u64 (y : Int) ∧ y < 18446744073709551616 ∧ Below wr.heap.size wr wx)
        case first =>
          cases t with
          | false =>
            go_wp2_with fail
            all_goals go_meet
            all_goals exact ⟨x, rfl, hv, Below.refl _ _⟩
          | true =>
            obtain ⟨hx1, hx0⟩ := hxt rfl
            have hs0 : 0 ≤ (x : Int) % (os.length : Int) := Int.emod_nonneg _ (by omega)
            have hs1 : (x : Int) % (os.length : Int) < os.length := Int.emod_lt_of_pos _ (by omega)
            obtain ⟨k, hk⟩ : ∃ k : Nat, (x : Int) % (os.length : Int) = (k : Int) := ⟨((x : Int) % (os.length : Int)).toNat, by omega⟩
            obtain ⟨ob, oq, wv, bv, rfl, hob', d0, -⟩ := L3.out k os[k] (List.getElem?_eq_getElem (by omega))
            have d1 := (BW.out.cell (p := ⟨ob, oq + k * 8, none⟩) hob').trans d0
            have hya := HSM.out os[k] (List.getElem_mem _)
            obtain ⟨y, hye⟩ : ∃ y, os[k].at_ = y := ⟨_, rfl⟩
            rw [hye] at d1 hya
            clear d0 hye
            go_upto_region 8 with fail
            go_region
            all_goals (go_wp2_with fail)
            all_goals go_meet
            all_goals exact ⟨2 * y, by simp, by omega, (Below.refl _ _).drew⟩
        case rest =>
          obtain ⟨y, rfl, hy, hgx⟩ := hcut
          obtain ⟨w2, hw2⟩ : ∃ w2, w2 = wc := ⟨_, rfl⟩
          rw [← hw2]
          rw [← hw2] at hgx
          clear hw2
          have oa2 := owns_later HOA.out hgx
          have ob2 := owns_later HOB.out hgx
          have hb2 := HBR.out.trans (hgx.mono (by omega))
          have hz2 := hgx.size
          have OA2 := Lib.hid oa2; have OB2 := Lib.hid ob2; have HB2 := Lib.hid hb2
          clear oa2 ob2 hb2 hgx HOA HOB HBR BW c0 y1 hxt
          go_wp2_with (at_builtin; refine wpList_append_own _ rfl _ _ 44 rfl (w.heap.size + 1) 38 i2 (.int .u64 0) 1 8 Tryd.underlying44 hi2 hc0 hc1 hc2 rfl (by decide) _ _ _ rfl (OA2.out.alloc _) ⟨w2.heap.size, 0, none⟩ 1 1 [.int .u64 (y : Int)] rfl rfl ?c1 ?c2 ?c3 ?c4 ?c5 ?_)
          case c1 =>
            intro j u hj
            match j, hj with
            | 0, hj => simp at hj; subst hj; simp [Addr.add]
          case c2 => intro u hu; simp at hu; subst hu; rfl
          case c3 => unfold maxLen; omega
          case c4 => omega
          case c5 => simp; omega
          intro va w3 hownA hgrowA _
          obtain ⟨ga, ca, rfl, hga⟩ := owns_shape hownA (by omega)
          have ob3 := (OB2.out.alloc (.cells #[.int .u64 (y : Int)] 38)).kept hgrowA (owns_apart OB2.out OA2.out (by decide))
          have hb3 : Below (w.heap.size + 1) w1 w3 := (HB2.out.alloc (by omega) _).grown hgrowA (by simp; omega) (fun q hq => (OA2.out.lt q hq).1)
          have oa3 : w3.ownsRow (w.heap.size + 1) 38 1 (.slice (some ⟨ga, 0, none⟩) (i + 1) ca) (i + 1) (wordVals (rs ++ [y])) := by
            rw [show wordVals (rs ++ [y]) = wordVals rs ++ [.int .u64 (y : Int)] by simp [wordVals]]
            exact hownA
          have hz3 : w2.heap.size < w3.heap.size := by have := hgrowA.size; simp at this; omega
          have OA3 := Lib.hid oa3; have OB3 := Lib.hid ob3; have HB3 := Lib.hid hb3
          clear hownA hgrowA oa3 ob3 hb3
          go_wp2_with (at_builtin; refine wpList_append_own _ rfl _ _ 23 rfl (w.heap.size + 1) 37 i1 (.int .u64 0) 1 8 Tryd.underlying23 hi1 hy0 hy1 hy2 rfl (by decide) _ _ _ rfl (OB3.out.alloc _) ⟨w3.heap.size, 0, none⟩ 1 1 [.int .u64 (y : Int)] rfl rfl ?c1 ?c2 ?c3 ?c4 ?c5 ?_)
          case c1 =>
            intro j u hj
            match j, hj with
            | 0, hj => simp at hj; subst hj; simp [Addr.add]
          case c2 => intro u hu; simp at hu; subst hu; rfl
          case c3 => unfold maxLen; omega
          case c4 => omega
          case c5 => simp; omega
          intro vb w4 hownB hgrowB _
          obtain ⟨gb, cb, rfl, hgb⟩ := owns_shape hownB (by omega)
          have oa4 := (OA3.out.alloc (.cells #[.int .u64 (y : Int)] 37)).kept hgrowB (owns_apart OA3.out OB3.out (by decide))
          have hb4 : Below (w.heap.size + 1) w1 w4 := (HB3.out.alloc (by omega) _).grown hgrowB (by simp; omega) (fun q hq => (OB3.out.lt q hq).1)
          have ob4 : w4.ownsRow (w.heap.size + 1) 37 1 (.slice (some ⟨gb, 0, none⟩) (i + 1) cb) (i + 1) (wordVals (rs ++ [y])) := by
            rw [show wordVals (rs ++ [y]) = wordVals rs ++ [.int .u64 (y : Int)] by simp [wordVals]]
            exact hownB
          have OA4 := Lib.hid oa4; have OB4 := Lib.hid ob4; have HB4 := Lib.hid hb4
          clear hownB hgrowB oa4 ob4 hb4
          go_wp2_with fail
          go_roundg (7 - (i + 1))
          case measure => rw [HGI.out]; omega
          case rel =>
            refine ⟨i + 1, _, _, _, _, _, _, rs ++ [y], rfl, by omega, by omega, by go_num, rfl, rfl, by simp; omega, fun z hz => ?_, OA4.out, OB4.out, HB4.out⟩
            rcases List.mem_append.1 hz with hz | hz
            · exact HRS.out z hz
            · have : z = y := by simpa using hz
              omega
    · have FIN : ∃ (av bv : Value) (rs' : List Nat), Ending.returned (.tuple #[.slice aa an ac, .slice ba bn bc]) = Ending.returned (.tuple #[av, bv]) ∧ rs'.length = min xs.length 6 ∧ (∀ x, x ∈ rs' → x < 18446744073709551616) ∧
          wr.ownsRow w.heap.size 38 1 av rs'.length (wordVals rs') ∧ wr.ownsRow w.heap.size 37 1 bv rs'.length (wordVals rs') ∧ Below w.heap.size w wr :=
        ⟨_, _, rs, rfl, by omega, HRS.out, by rw [hrl]; exact owns_mono HOA.out (by omega), by rw [hrl]; exact owns_mono HOB.out (by omega), B1.out.trans (HBR.out.mono (by omega))⟩
      by_cases hl : (i : Int) < xs.length
      · obtain rfl : i = 6 := by omega
        go_wp2_with fail
        exact bodyPost_ret (v := .tuple #[.slice aa an ac, .slice ba bn bc]) (by simp [results, Tryd.results7, go_sem]) rfl (by obtain ⟨av, bv, rs', h1, h2⟩ := FIN; first | exact ⟨av, bv, rs', h1, h2⟩ | exact ⟨av, bv, h1, rs', h2⟩)
      · go_wp2_with fail
        exact bodyPost_ret (v := .tuple #[.slice aa an ac, .slice ba bn bc]) (by simp [results, Tryd.results7, go_sem]) rfl (by obtain ⟨av, bv, rs', h1, h2⟩ := FIN; first | exact ⟨av, bv, rs', h1, h2⟩ | exact ⟨av, bv, h1, rs', h2⟩)
end Go.Proofs.YtobajnodckiohaaDoor
namespace Go.Proofs.YtobajnodckiohaaDoor
open Go.Joins Go.ChangeShapes Go.WideShapes Go.ChangeAt Go.RowKit Go.Deep
theorem words_of_nums {w : World} {v : Value} {l : List Int} (h : NumsAt w .u64 v l) : ∃ ls : List Nat, WordsAt w v ls ∧ ∀ x, x ∈ ls → x < 18446744073709551616 := by
  obtain ⟨a, cap, rfl, h1, h2, h3, h4⟩ := h
  refine ⟨l.map Int.toNat, ⟨a, cap, by rw [List.length_map], by rw [List.length_map]; exact h1, h2, ?_, h3⟩, fun x hx => ?_⟩
  · by_cases h0 : l.length = 0
    · have : l = [] := List.length_eq_zero_iff.1 h0
      subst this
      exact Or.inl rfl
    · obtain ⟨b, o, ha, -, -⟩ := h4 0 (by omega)
      refine Or.inr ⟨b, o, ha, fun j hj => ?_⟩
      rw [wordVals_length, List.length_map] at hj
      obtain ⟨b', o', ha', hc, hw⟩ := h4 j hj
      rw [ha] at ha'
      simp at ha'
      obtain ⟨rfl, rfl⟩ := ha'
      have hb := bounds_u64 hw
      rw [hc]
      simp [wordVals, hj]
      omega
  · obtain ⟨y, hy, rfl⟩ := List.mem_map.1 hx
    obtain ⟨i, hi, rfl⟩ := List.getElem_of_mem hy
    obtain ⟨b', o', ha', hc, hw⟩ := h4 i hi
    have hb := bounds_u64 hw
    omega
theorem open_nums_at {H : Type} {enc : TypeId × Value → H} {w : World} {base : Nat} {spare : Nat → Bool} {held : Bool} {fuel : Nat} {cs : List Value} {x : DataW H × List MemPlace} {t e : TypeId} {k : IntKind}
    (ht : Tryd.prog.underlying t = some (.slice e)) (he : Tryd.prog.underlying e = some (.int k)) (hce : Tryd.prog.cellsOf e = 1)
    (hf : DataW.trod enc Tryd.prog w base spare held fuel t cs = some x) : ∃ v l, cs = [v] ∧ NumsAt w k v l := by
  rcases open_slice1 ht hce hf with ⟨rfl, -⟩ | ⟨a', len', cap', m, n, V, D, Pl, rfl, hb, hl, hm, hmm, -, hi⟩
  · exact ⟨_, [], rfl, none, 0, rfl, Nat.le_refl _, by unfold maxLen; omega, fun _ => rfl, fun i hi => by simp at hi⟩
  · have hml : len' ≤ m := by rw [hmm]; split <;> omega
    have hcell : ∀ i, i < len' → w.cell? (a'.add i) = some (.int k (intOf (V i))) ∧ (Lit.int k (intOf (V i))).wf = true := fun i hil => by
      obtain ⟨h1, h2⟩ := hi i (by omega)
      obtain ⟨z, hz, -, hw⟩ := DataW.trod_int he h2
      injection hz with hz
      rw [hz] at h1 ⊢
      exact ⟨h1, hw⟩
    refine ⟨_, (List.range len').map fun i => intOf (V i), rfl, some a', cap', ?_, ?_, hm, fun h => (by cases h), fun i hi => ?_⟩
    · rw [List.length_map, List.length_range]
    · rw [List.length_map, List.length_range]; exact hl
    · have hil : i < len' := by simpa using hi
      refine ⟨a'.block, a'.off, congrArg some (spot_plain (hcell 0 (by omega)).1), ?_, ?_⟩
      · rw [cell_plain (hcell i hil).1]; simp
      · simpa using (hcell i hil).2
theorem graph_fields : ∃ f0 f1 : Field, Tryd.prog.underlying 25 = some (.struct #[f0, f1]) ∧ oneCellFields Tryd.prog #[f0, f1] = true ∧
    f0.type = 22 ∧ f1.type = 23 :=
  ⟨_, _, Tryd.underlying25, by kernel_rfl, rfl, rfl⟩
set_option maxRecDepth 100000 in
theorem open_graph {H : Type} {enc : TypeId × Value → H} {w : World} {base : Nat} {spare : Nat → Bool} {held : Bool} {r : Reach} {b0 : Nat} {v : Value} {d : DataW H} {p : List MemPlace}
    (hv : Value.okWide Tryd.prog w r b0 25 v) (h : DataW.Trod enc Tryd.prog w base spare held 25 v d p) :
    ∃ (kv gv : Value) (ks : List Int) (ls : List Nat), v = .agg #[kv, gv] ∧ NumsAt w .i64 kv ks ∧ WordsAt w gv ls ∧ ∀ x, x ∈ ls → x < 18446744073709551616 := by
  obtain ⟨f0, f1, hs, hone, t0, t1⟩ := graph_fields
  obtain ⟨cs, rfl, hsz⟩ := okWide_struct hs hv
  have hC : Tryd.prog.cellsOf 25 = 2 := by kernel_rfl
  obtain ⟨l⟩ := cs
  match l, hsz.trans hC with
  | [c0, c1], _ =>
    obtain ⟨fuel, hf⟩ := h
    obtain ⟨xs, n, _, -, -, hlen, hg⟩ := DataW.trod_struct hs hf
    match xs, hlen with
    | [y0, y1], _ =>
      obtain ⟨o0, k0⟩ := hone_of hone 0 f0 rfl
      rw [t0] at k0
      obtain ⟨o1, k1⟩ := hone_of hone 1 f1 rfl
      rw [t1] at k1
      have g0 := hg 0 f0 rfl
      have g1 := hg 1 f1 rfl
      simp [Value.cells, o0, t0, k0] at g0
      simp [Value.cells, o1, t1, k1] at g1
      obtain ⟨v0, l0, e0, n0⟩ := open_nums_at Tryd.underlying22 Tryd.underlying3 (by kernel_rfl) g0
      obtain ⟨v1, l1, e1, n1⟩ := open_nums_at Tryd.underlying23 Tryd.underlying37 (by kernel_rfl) g1
      simp at e0 e1
      subst e0 e1
      obtain ⟨ls, w1, w2⟩ := words_of_nums n1
      exact ⟨c0, c1, l0, ls, rfl, n0, w1, w2⟩
end Go.Proofs.YtobajnodckiohaaDoor
