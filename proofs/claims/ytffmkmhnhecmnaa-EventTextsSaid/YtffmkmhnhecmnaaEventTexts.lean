/- EventTexts: events have just the document's text, and are read back: for every list of events. -/
import Derived.Test.YtffmkmhnhecmnaaEvTexts
import Derived.Test.YtffmkmhnhecmnaaEvOpen
import Derived.ProofKit
import Derived.OpenShut
import Derived.ChangeOld
namespace Go.Proofs.Ytffmkmhnhecmnaa.eventTexts
open Go.ChangeShapes Go.WideShapes Go.ChangeAt Go.RowKit
set_option linter.unusedVariables false
/-- what a walk reads of one event, the slice being known -/
theorem evs_cells_of {w : World} {a : Option Addr} {n cap : Nat} {es : List Ev} (h : EvsAt w (.slice a n cap) es) :
    ∀ i e, es[i]? = some e → ∃ b o bv nm, a = some ⟨b, o, none⟩ ∧ b < w.heap.size ∧ w.cell? ⟨b, o + i * 3, none⟩ = some (.int .i64 e.kind) ∧ w.cell? ⟨b, o + i * 3 + 1, none⟩ = some bv ∧ w.cell? ⟨b, o + i * 3 + 2, none⟩ = some (.string nm) ∧
      nm.data.toList = e.name ∧ BytesAt w bv e.bytes := by
  obtain ⟨a', cap', hv, -, -, -, h4⟩ := h.get
  injection hv with h1 h2 h3
  subst h1
  exact h4
theorem _root_.Go.Proofs.Ytffmkmhnhecmnaa.BytesAt.parts {w : World} {a : Option Addr} {n cap : Nat} {l : List UInt8} (h : BytesAt w (.slice a n cap) l) : n = l.length ∧ l.length ≤ cap ∧ cap ≤ maxLen ∧ RowAt w a (Lib.byteCells l) ∧ (a = none → cap = 0) := by
  obtain ⟨a', cap', hv, h1, h2, h3, h4⟩ := h
  injection hv with e1 e2 e3
  subst e1 e3
  exact ⟨e2, h1, h2, h3, h4⟩
theorem plainK_next {l : List Ev} {k : Nat} (hk : k < l.length) : plainK (l.take (k + 1)) = (plainK (l.take k) && decide (1 ≤ l[k].kind ∧ l[k].kind ≤ 3)) := by
  unfold plainK
  rw [List.take_succ_eq_append_getElem hk, List.all_append]
  simp
set_option maxRecDepth 100000 in
set_option maxHeartbeats 1000000 in
theorem walk (v : Value) (es : List Ev) (w : World) (hv : EvsAt w v es) :
    Calls Try.prog 5 #[v] w fun e w' => e = .returned (.bool true) ∧ Below w.heap.size w w' := by
  obtain ⟨i1, hj, hj0, hj1, hj2⟩ := info_parts byteInfo
  have HV := Lib.hid hv; clear hv
  go_enter Try.func5, Try.ntmps5
  go_wp2_with fail
  refine (awake25 _).mono ?_
  rintro e w1 ⟨rfl, hg1⟩
  have H1 := Lib.hid hg1; clear hg1
  go_wp2_with fail
  refine (own25_any v es _ (HV.out.later H1.out)).mono ?_
  rintro e w2 ⟨x, rfl, hx, hg2⟩
  have sx := Lib.hid (smallCut es); have lx := Lib.hid (lenCut es)
  generalize (es.map cutEv).take 20 = X at *
  have H2 := Lib.hid (H1.out.trans (hg2.mono H1.out.size)); have HX := Lib.hid hx; clear hg2 hx H1
  have TD := Lib.hid (told_any x X w2 HX.out (by have := lx.out; omega))
  have TX := Lib.hid (fun W (hW : Below w2.heap.size w2 W) => text_any x X W (HX.out.later hW) sx.out (by have := lx.out; omega))
  have DG := Lib.hid (fun W (hW : Below w2.heap.size w2 W) => digest_any x X W (HX.out.later hW) sx.out (by have := lx.out; omega))
  have SH := Lib.hid (fun W (hW : Below w2.heap.size w2 W) => shown_any x X W (HX.out.later hW) sx.out (by have := lx.out; omega))
  have PA := Lib.hid (fun W => parse_any X W sx.out (by have := lx.out; omega))
  have hz : (⟨(textL X).toArray⟩ : ByteArray).size ≤ 1000000 := by have := textL_len X sx.out; have := lx.out; rw [str_size]; omega
  have hd : (⟨(textL X).toArray⟩ : ByteArray).data.toList = textL X := by simp
  have CV := Lib.hid (fun W => conv_bytes (⟨(textL X).toArray⟩ : ByteArray) W hz)
  rw [hd] at CV
  have BT := Lib.hid (fun u W (hu : EvsAt W u (X.map backE)) (hp : plainK X = true) => text_any u (X.map backE) W hu (back_small X sx.out) (by rw [List.length_map]; have := lx.out; omega))
  have BT2 := Lib.hid (fun hp => back_text X hp)
  have RT := Lib.hid (fun u W (hu : EvsAt W u X) => rtext_any u X W hu sx.out (by have := lx.out; omega))
  obtain ⟨ax, cx, rfl, -, -, -, -⟩ := HX.out.get
  generalize hs : (⟨(textL X).toArray⟩ : ByteArray) = s at *
  have HS := Lib.hid hs
  clear hs hd hz
  go_wp2_with fail
  refine TD.out.mono ?_
  rintro e w3 ⟨y, rfl, hy, hg⟩
  have HY := Lib.hid hy; have HG3 := Lib.hid hg
  obtain ⟨ay, cy, rfl, yc1, yc2, -, yc4⟩ := hy.get
  have Y4 := Lib.hid yc4
  clear hy hg yc4
  go_wp2_with fail
  refine (TX.out w3 HG3.out).mono ?_
  rintro e w4 ⟨rfl, hg⟩
  have HG4 := Lib.hid (HG3.out.trans (hg.mono HG3.out.size))
  have HYL := Lib.hid hg
  clear hg
  go_wp2_with fail
  refine (RT.out _ w4 (HY.out.later HYL.out)).mono ?_
  rintro e w5 ⟨rfl, hg⟩
  have HY5 := Lib.hid ((HY.out.later HYL.out).later hg)
  have HG5 := Lib.hid (HG4.out.trans (hg.mono HG4.out.size))
  clear hg
  go_wp2_with fail
  refine (DG.out w5 HG5.out).mono ?_
  rintro e w6 ⟨rfl, hg⟩
  have HY6 := Lib.hid (HY5.out.later hg)
  have HG6 := Lib.hid (HG5.out.trans (hg.mono HG5.out.size))
  clear hg
  obtain ⟨a1, c1, w7, hcv, hby, hg⟩ := CV.out w6
  have HB7 := Lib.hid (hby w7 rfl).1
  have HY7 := Lib.hid (HY6.out.later hg)
  have HG7 := Lib.hid (HG6.out.trans (hg.mono HG6.out.size))
  clear hg hby
  go_wp2_with fail
  refine (rcrc_any _ _ w7 HB7.out).mono ?_
  rintro e w8 ⟨rfl, hw8⟩
  subst hw8
  have HEG := Lib.hid (evs_cells_of HY7.out)
  go_wp2_with fail
  go_loopg [6, 7, 35] X.length (fun gg s6 s7 s35 wr => ∃ k : Nat, gg = X.length - k ∧ k ≤ X.length ∧ s35 = .int .i64 (k : Int) ∧ OwnsB wr w8.heap.size s6 (shownL (X.take k)) ∧ s7 = .bool (plainK (X.take k)) ∧ Below w8.heap.size w8 wr)
  case atStart => exact ⟨0, rfl, by omega, rfl, World.ownsRow_nil _ _ _ _, rfl, Below.refl _ _⟩
  case round =>
    obtain ⟨k, hgk, hk, rfl, hb, rfl, hg⟩ := hrel
    have HBk := Lib.hid hb; have HGk := Lib.hid hg; have HK := Lib.hid hgk
    clear hb hg hgk
    by_cases hlt : k < X.length
    · obtain ⟨b, o, bv, nm, hab, hbl, c0, c1', c2, hn, hbv⟩ := HEG.out k X[k] (List.getElem?_eq_getElem hlt)
      subst hab
      have d0 := (HGk.out.cell (p := ⟨b, o + k * 3, none⟩) hbl).trans c0
      have d1 := (HGk.out.cell (p := ⟨b, o + k * 3 + 1, none⟩) hbl).trans c1'
      have d2 := (HGk.out.cell (p := ⟨b, o + k * 3 + 2, none⟩) hbl).trans c2
      have hwl := HGk.out.size
      have hbr : b < wr.heap.size := by omega
      have HSN := Lib.hid (shownL_snoc X k X[k] (List.getElem?_eq_getElem hlt))
      have hpn := plainK_next hlt
      have s1 := sx.out _ (List.getElem_mem hlt)
      have HBV := Lib.hid (hbv.later HGk.out)
      have hln := lx.out
      have hst := shownL_take_len X sx.out k (by omega)
      generalize X[k] = ev at *
      obtain ⟨ek, eb, en⟩ := ev
      dsimp only at *
      subst hn
      obtain ⟨ab, cb, rfl, b1, b2, b3, b5⟩ := hbv
      clear c0 c1' c2 b1 b2 b3 b5
      by_cases q : ek = 1
      · subst q
        have hE := HSN.out
        rw [if_pos rfl] at hE
        have HS2 := Lib.hid hE
        rw [show decide ((1 : Int) ≤ 1 ∧ (1 : Int) ≤ 3) = true by decide, Bool.and_true] at hpn
        have HPN := Lib.hid hpn
        clear hE hpn HSN
        obtain ⟨x3, x4, x5, x6, x7⟩ := HBV.out.parts
        have X7 := Lib.hid x7; have X6 := Lib.hid x6
        clear x7 x6
        go_wp2_with (at_builtin; go_loud (refine wpList_append_row rfl _ _ 33 rfl w8.heap.size 5 i1 _ 1 1 Try.underlying33 hj hj0 hj1 hj2 rfl (by decide) _ _ _ rfl (owns_later HBk.out ?b0) ab eb.length cb (Lib.byteCells eb) rfl (by rw [Lib.byteCells_length]; omega) (X6.out.later ?b1) X7.out x4 ?c2 ?c3 ?c4 ?c5 ?_))
        case b0 => repeat (first | with_reducible exact Below.refl _ _ | ((with_reducible refine Below.setCell ?_ ?_ _); rotate_left; focus (first | (simp; done) | (simp; omega) | omega)) | ((with_reducible refine Below.alloc ?_ ?_ _); rotate_left; focus (first | (simp; done) | (simp; omega) | omega)) | (with_reducible refine Below.drew ?_))
        case b1 => repeat (first | with_reducible exact Below.refl _ _ | ((with_reducible refine Below.setCell ?_ ?_ _); rotate_left; focus (first | (simp; done) | (simp; omega) | omega)) | ((with_reducible refine Below.alloc ?_ ?_ _); rotate_left; focus (first | (simp; done) | (simp; omega) | omega)) | (with_reducible refine Below.drew ?_))
        case c2 => intro u hu; simp only [Lib.byteCells, List.mem_map] at hu; obtain ⟨b, _, rfl⟩ := hu; rfl
        case c3 => unfold maxLen; omega
        case c4 => omega
        case c5 => first | omega | (simp; omega)
        intro v' w9 hown' hgrow
        have ho9 : OwnsB w9 w8.heap.size v' (shownL (X.take (k + 1))) := ownsB_of hown' (by rw [HS2.out, Lib.byteCells_append])
        have hb9 : Below w8.heap.size w8 w9 := by
          refine Below.grown (HGk.out.alloc hwl _) hgrow ?_ (fun q hq => (HBk.out.lt q hq).1)
          simp; omega
        have hev : w9.heap[wr.heap.size]? = _ := (hgrow.block wr.heap.size (by simp) (fun e => by have := (HBk.out.lt _ e.symm).2; omega)).trans (heap_alloc_new wr _)
        have y0 := cellO hev 0
        simp at y0
        have HO9 := Lib.hid ho9; have HB9 := Lib.hid hb9
        clear hown' hgrow ho9 hb9 hev
        cases hpv : plainK (X.take k)
        · rw [hpv] at HPN
          go_wp2_with fail
          all_goals (try (exfalso; go_light; omega))
          go_roundg (X.length - (k + 1))
          case measure => rw [HK.out]; omega
          case rel => exact ⟨k + 1, rfl, by omega, by go_num, HO9.out, by rw [HPN.out], HB9.out⟩
        · rw [hpv] at HPN
          go_wp2_with fail
          all_goals (try (exfalso; go_light; omega))
          go_roundg (X.length - (k + 1))
          case measure => rw [HK.out]; omega
          case rel => exact ⟨k + 1, rfl, by omega, by go_num, HO9.out, by rw [HPN.out], HB9.out⟩
      · have hE := HSN.out
        rw [if_neg q, List.append_nil] at hE
        have HS2 := Lib.hid hE
        have q0 : (ek == 1) = false := by simpa using q
        have hoN : ∀ W, Below wr.heap.size wr W → OwnsB W w8.heap.size u6 (shownL (X.take (k + 1))) := fun W hW => by rw [HS2.out]; exact owns_later HBk.out hW
        have HON := Lib.hid hoN
        clear hE HSN hoN q
        cases hpv : plainK (X.take k)
        · rw [hpv, Bool.false_and] at hpn
          have HPN := Lib.hid hpn
          clear hpn
          go_wp2_with fail
          all_goals (try (exfalso; go_light; omega))
          go_roundg (X.length - (k + 1))
          case measure => rw [HK.out]; omega
          case rel => exact ⟨k + 1, rfl, by omega, by go_num, HON.out _ ((Below.refl _ _).alloc (Nat.le_refl _) _), by rw [HPN.out], HGk.out.alloc hwl _⟩
        · rw [hpv, Bool.true_and] at hpn
          by_cases r1 : 1 ≤ ek
          · by_cases r3 : ek ≤ 3
            · rw [decide_eq_true ⟨r1, r3⟩] at hpn
              have HPN := Lib.hid hpn
              clear hpn
              go_wp2_with fail
              all_goals (try (exfalso; go_light; omega))
              go_roundg (X.length - (k + 1))
              case measure => rw [HK.out]; omega
              case rel => exact ⟨k + 1, rfl, by omega, by go_num, HON.out _ ((Below.refl _ _).alloc (Nat.le_refl _) _), by rw [HPN.out], HGk.out.alloc hwl _⟩
            · rw [decide_eq_false (fun h => r3 h.2)] at hpn
              have HPN := Lib.hid hpn
              clear hpn
              go_wp2_with fail
              all_goals (try (exfalso; go_light; omega))
              go_roundg (X.length - (k + 1))
              case measure => rw [HK.out]; omega
              case rel => exact ⟨k + 1, rfl, by omega, by go_num, HON.out _ ((Below.refl _ _).alloc (Nat.le_refl _) _), by rw [HPN.out], HGk.out.alloc hwl _⟩
          · rw [decide_eq_false (fun h => r1 h.1)] at hpn
            have HPN := Lib.hid hpn
            clear hpn
            go_wp2_with fail
            all_goals (try (exfalso; go_light; omega))
            go_roundg (X.length - (k + 1))
            case measure => rw [HK.out]; omega
            case rel => exact ⟨k + 1, rfl, by omega, by go_num, HON.out _ ((Below.refl _ _).alloc (Nat.le_refl _) _), by rw [HPN.out], HGk.out.alloc hwl _⟩
    · have hks : X.take k = X := List.take_of_length_le (by omega)
      rw [hks]
      have hb := HBk.out
      rw [hks] at hb
      have HB2 := Lib.hid hb
      have HG9 := Lib.hid (HG7.out.trans (HGk.out.mono HG7.out.size))
      clear hb hks
      go_wp2_with fail
      all_goals (try (exfalso; go_light; omega))
      refine (SH.out wr HG9.out).mono ?_
      rintro e wa ⟨v', rfl, hsh, hg⟩
      have HBa := Lib.hid (bytes_of_owns (owns_later HB2.out hg))
      have HSa := Lib.hid (bytes_of_owns hsh)
      have HGa := Lib.hid (HG9.out.trans (hg.mono HG9.out.size))
      obtain ⟨sa, sc, rfl, -⟩ := row_of_owns_any hsh
      clear hg hsh
      go_wp2_with fail
      refine (requal_any _ _ _ _ _ HSa.out HBa.out).mono ?_
      rintro e wb ⟨rfl, hwb⟩
      subst hwb
      rw [show (shownL X == shownL X) = true by simp]
      go_wp2_with fail
      refine (PA.out _).mono ?_
      rintro e wc ⟨bv, bn, bc, rfl, hp1, hp2, hg⟩
      have HGc := Lib.hid (HGa.out.trans (hg.mono HGa.out.size))
      have HGw := Lib.hid (H2.out.trans (HGc.out.mono H2.out.size))
      clear hg
      cases hpl : plainK X
      · obtain ⟨rfl, rfl⟩ := hp2 hpl
        clear hp1 hp2 hpl
        go_wp2_with fail
        go_ret
        exact ⟨rfl, HGw.out⟩
      · obtain ⟨rfl, rfl, hback⟩ := hp1 hpl
        have TB := Lib.hid (BT.out bv wc hback hpl)
        rw [BT2.out hpl, HS.out] at TB
        obtain ⟨ba, bcap, rfl, -, -, -, -⟩ := hback.get
        rw [List.length_map] at TB ⊢
        clear hp1 hp2 hpl hback
        go_wp2_with fail
        refine TB.out.mono ?_
        rintro e wd ⟨rfl, hg⟩
        have HGd := Lib.hid (HGw.out.trans (hg.mono HGw.out.size))
        clear hg
        go_wp2_with fail
        go_ret
        exact ⟨rfl, HGd.out⟩
theorem own : ownKnob Try.prog.godebug = none := by kernel_rfl
theorem laidOut : laidOutB Try.prog = true := by kernel_rfl
set_option maxRecDepth 100000 in
theorem lifted (os : Os) (started : os.Started) (H : Type) (enc : TypeId × Value → H) :
    ReturnsInHanded {} Try.checked os 5 .any (Rows.eventTextsSpec.pre6 enc Try.prog Try.f5 Rows.eventTextsRow.domain false) (Rows.eventTextsSpec.post enc Try.prog Try.f5 false true false false) := by
  refine returnsInHanded_of_change (C := Try.checked) own started (by kernel_rfl) Try.func5
    (ChangeSpec.witness6 (enc := enc) (C := Try.checked) false ⟨#[], #[.slice none 0 0], []⟩ 8 (by kernel_rfl) (by kernel_rfl) (by kernel_rfl) (by kernel_rfl)) ?_
  intro W base args ds gs before hval0 hW hcnd _
  have hval : ∀ (j : Nat) t v, Try.f5.params[j]? = some t → args[j]? = some v → Value.okWide Try.prog W .any base t v := hval0
  have hW' := hW
  obtain ⟨p, q, hA0, hV, rfl, hfz, hnd⟩ := hW
  have hA : DataW.TrodAll enc Try.prog W 0 (fun _ => true) true Try.f5.params.toList args.toList ds p := hA0
  rw [Try.params5] at hA hval
  obtain ⟨v0, vs0, d0, ds0, p0, q0, hargs, rfl, rfl, h0, r0⟩ := trodAll_cons hA
  obtain ⟨rfl, rfl, rfl⟩ := trodAll_nil r0
  obtain rfl : args = #[v0] := by cases args; simp_all
  obtain ⟨rfl, rfl⟩ := trodVars_none hV
  have k0 := h0
  have lt0 : ∀ x ∈ p0, x.block < W.heap.size := by obtain ⟨m, hm⟩ := k0; exact DataW.trod_lt m _ _ _ hm
  obtain ⟨es, he⟩ := open_evs (hval 0 22 v0 rfl rfl) h0
  clear hA0 hval0
  refine (walk v0 es W he).mono fun e W' ⟨he, bel⟩ => ?_
  subst he
  exact ⟨_, rfl, _, _, _, [], _, [], hW', trodAll_mk1 (shut_bool Try.underlying4 _), (trodAll_cons_mk (Below.trod laidOut (by kernel_rfl) (of_decide_eq_true (by kernel_rfl)) k0 bel lt0) trodAll_mk0), rfl, bel.frame _, fun h => by cases h⟩
theorem over : Rows.eventTextsRow.holds Try.pinned (OpenSpec.ofChange Rows.eventTextsSpec) :=
  OpenClaim.holds_of_wide 5 Try.f5 rfl rfl rfl rfl rfl rfl rfl ⟨rfl, rfl, rfl, rfl, rfl⟩ rfl rfl rfl rfl rfl (by kernel_rfl) Try.func5 (by kernel_rfl)
    (of_decide_eq_true (by kernel_rfl)) (by unfold Func.isWrapper; rw [if_neg (by decide +kernel)]; exact ⟨rfl, rfl⟩)
    (fun os started H enc _ => lifted os started H enc)
theorem proved : Rows.EventTextsSaid := over
end Go.Proofs.Ytffmkmhnhecmnaa.eventTexts
