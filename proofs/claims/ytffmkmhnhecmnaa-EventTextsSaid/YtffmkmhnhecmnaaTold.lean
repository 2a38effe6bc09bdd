/- The document's events; prefixes. -/
import Derived.Test.YtffmkmhnhecmnaaEvText
namespace Go.Proofs.Ytffmkmhnhecmnaa
open Go.RowKit
theorem revInfo : (Try.prog.info? 40).map (fun i => (i.zero, i.size, i.bytes)) = some (some (.agg #[.int .i64 0, .slice none 0 0, .string ⟨#[]⟩]), 3, 48) := by kernel_rfl
set_option maxRecDepth 100000 in
set_option maxHeartbeats 400000 in
theorem told_any (v : Value) (l : List Ev) (w : World) (hv : EvsAt w v l) (hl : l.length ≤ 1000) :
    Calls Try.prog 9 #[v] w fun e w' => ∃ v', e = .returned v' ∧ EvsAt w' v' l ∧ Below w.heap.size w w' := by
  obtain ⟨i0, hi, hz0, hz1, hz2⟩ := info_parts revInfo
  obtain ⟨a, cap, rfl, h1, h2, h3, h4⟩ := hv.get
  have H4 := Lib.hid h4; clear hv h3 h4
  unfold maxLen at h2
  go_enter Try.func9, Try.ntmps9
  go_wp2_with fail
  go_loopg [3, 8] l.length (fun g o i wr => ∃ (k n : Nat) (xs : List Value), g = l.length - k ∧ k ≤ l.length ∧ i = .int .i64 k ∧ wr.ownsRow w.heap.size 40 3 o n xs ∧ EvCells w xs (l.take k) ∧ Below w.heap.size w wr)
  case atStart => exact ⟨0, 0, [], rfl, by omega, rfl, World.ownsRow_nil _ _ _ _, EvCells.nil _, Below.refl _ _⟩
  case round =>
    obtain ⟨k, n, xs, hgk, hk, rfl, ho, hc, hg⟩ := hrel
    have HOk := Lib.hid ho; have HGk := Lib.hid hg; have HK := Lib.hid hgk; have HC := Lib.hid hc
    clear ho hg hgk hc
    by_cases hlt : k < l.length
    · obtain ⟨b, o, bv, nm, hab, hbl, c0, c1, c2, hn, hbv⟩ := H4.out k l[k] (List.getElem?_eq_getElem hlt)
      subst hab
      have d0 := (HGk.out.cell (p := ⟨b, o + k * 3, none⟩) hbl).trans c0
      have d1 := (HGk.out.cell (p := ⟨b, o + k * 3 + 1, none⟩) hbl).trans c1
      have d2 := (HGk.out.cell (p := ⟨b, o + k * 3 + 2, none⟩) hbl).trans c2
      have hwl := HGk.out.size
      have hbr : b < wr.heap.size := by omega
      have hc2 : EvCells w (xs ++ [.int .i64 l[k].kind, bv, .string nm]) (l.take (k + 1)) := by
        rw [List.take_succ_eq_append_getElem hlt]
        exact HC.out.append (EvCells.one hn hbv)
      have HC2 := Lib.hid hc2
      have hnb : n ≤ 1000 := by have h1 := HOk.out.1; have h2 := HC.out.1; rw [List.length_take] at h2; omega
      have HNB := Lib.hid hnb
      generalize l[k].kind = ek at *
      obtain ⟨ab, cb, rfl, -, -, -, -⟩ := hbv
      clear c0 c1 c2 hc2 hnb
      go_wp2_with (at_builtin; go_loud (refine wpList_append_own _ rfl _ _ 22 rfl w.heap.size 40 i0 _ 3 48 Try.underlying22 hi hz0 hz1 hz2 rfl (by decide) _ _ _ rfl (owns_later HOk.out ?b0) ⟨wr.heap.size + 1, 0, none⟩ 1 1 [.int .i64 ek, .slice ab l[k].bytes.length cb, .string nm] rfl rfl ?b1 ?c2 ?c3 ?c4 ?c5 ?_))
      case b0 => repeat (first | with_reducible exact Below.refl _ _ | ((with_reducible refine Below.setCell ?_ ?_ _); rotate_left; focus (first | (simp; done) | (simp; omega) | omega)) | ((with_reducible refine Below.alloc ?_ ?_ _); rotate_left; focus (first | (simp; done) | (simp; omega) | omega)) | (with_reducible refine Below.drew ?_))
      case b1 =>
        intro j u hj
        match j, hj with
        | 0, hj => simp at hj; subst hj; simp [Addr.add]
        | 1, hj => simp at hj; subst hj; simp [Addr.add]
        | 2, hj => simp at hj; subst hj; simp [Addr.add]
      case c2 => intro u hu; simp at hu; rcases hu with rfl | rfl | rfl <;> rfl
      case c3 => have := HNB.out; unfold maxLen; omega
      case c4 => have := HNB.out; omega
      case c5 => simp; omega
      intro v' w1 hown' hgrow _
      have hb1 : Below w.heap.size w w1 := by
        refine Below.grown ?_ hgrow ?_ (fun q hq => (HOk.out.lt q hq).1)
        · repeat (first | with_reducible exact Below.refl _ _ | ((with_reducible refine Below.setCell ?_ ?_ _); rotate_left; focus (first | (simp; done) | (simp; omega) | omega)) | ((with_reducible refine Below.alloc ?_ ?_ _); rotate_left; focus (first | (simp; done) | (simp; omega) | omega)) | (with_reducible refine Below.drew ?_) | ((with_reducible refine Below.trans ?_ (Below.mono HGk.out ?_)); rotate_left; focus (first | (simp; done) | (simp; omega) | omega)))
        · simp; omega
      have HO := Lib.hid hown'; have HB := Lib.hid hb1; clear hown' hgrow hb1
      go_wp2_with fail
      go_roundg (l.length - (k + 1))
      case measure => rw [HK.out]; omega
      case rel => exact ⟨k + 1, n + 1, _, rfl, by omega, by go_num, HO.out, HC2.out, HB.out⟩
    · have hks : l.take k = l := List.take_of_length_le (by omega)
      have hc := HC.out
      rw [hks] at hc
      have hfin := evs_of_owns HOk.out (hc.later HGk.out)
      have HF := Lib.hid hfin; clear hfin hc hks
      go_wp2_with fail
      go_ret
      exact ⟨_, rfl, HF.out, HGk.out⟩
set_option maxRecDepth 100000 in
theorem prefix_any (v u : Value) (l m : List Ev) (w : World) (hv : EvsAt w v l) (hu : EvsAt w u m) (sl : smallEvs l) (sm : smallEvs m) :
    Calls Try.prog 11 #[v, u] w fun e w' => e = .returned (.bool (decide (commonL l m = l.length))) ∧ Below w.heap.size w w' := by
  have C := Lib.hid (common_any v u l m w hv hu sl sm)
  obtain ⟨a, cap, rfl, h1, h2, h3, h4⟩ := hv.get
  clear hv hu sl sm h3 h4
  go_enter Try.func11, Try.ntmps11
  go_wp2_with fail
  refine C.out.mono ?_
  rintro e w1 ⟨rfl, hg⟩
  have HG := Lib.hid hg; clear hg
  by_cases q : commonL l m = l.length
  · have z : (((commonL l m : Nat) : Int) == ((l.length : Nat) : Int)) = true := by rw [q]; simp
    have Q := Lib.hid q; clear q
    go_wp2_with fail
    go_ret
    exact ⟨by rw [decide_eq_true Q.out]; try rfl, HG.out⟩
  · have z : (((commonL l m : Nat) : Int) == ((l.length : Nat) : Int)) = false := by rw [beq_eq_false_iff_ne]; omega
    have Q := Lib.hid q; clear q
    go_wp2_with fail
    go_ret
    exact ⟨by rw [decide_eq_false Q.out]; try rfl, HG.out⟩
set_option maxRecDepth 100000 in
theorem requal_any (v u : Value) (l m : List UInt8) (w : World) (hv : BytesAt w v l) (hu : BytesAt w u m) :
    Calls Try.prog 13 #[v, u] w fun e w' => e = .returned (.bool (l == m)) ∧ w' = w := by
  have c1 := run_string_of hv
  have c2 := run_string_of hu
  obtain ⟨a, ca, rfl, -, -, -, -⟩ := hv
  obtain ⟨b, cb, rfl, -, -, -, -⟩ := hu
  go_enter Try.func13, Try.ntmps13
  go_wp2_with fail
  go_ret
  exact ⟨rfl, rfl⟩
end Go.Proofs.Ytffmkmhnhecmnaa
