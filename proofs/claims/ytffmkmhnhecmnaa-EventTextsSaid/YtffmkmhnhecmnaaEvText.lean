/- The text of events. -/
import Derived.Test.YtffmkmhnhecmnaaCommon
namespace Go.Proofs.Ytffmkmhnhecmnaa
open Go.RowKit
theorem isB_later {T e : TypeId} {B b : Nat} {bs : List Value} {w w' : World} (h : Lib.IsBuilder T e B b bs w) (hg : Below w.heap.size w w') : Lib.IsBuilder T e B b bs w' := by
  rcases h with h | h
  · have hlt := h.lt
    obtain ⟨hB, v, hb, hown, hne⟩ := h
    exact Or.inl ⟨hB, v, (hg.block b hlt).trans hb, owns_later hown hg, hne⟩
  · have hlt := h.lt
    obtain ⟨hB, v, hb, hown, hne⟩ := h
    exact Or.inr ⟨hB, v, (hg.block b hlt).trans hb, owns_later hown hg, hne⟩
theorem textL_len (l : List Ev) (h : smallEvs l) : (textL l).length ≤ 701 * l.length := by
  unfold textL
  induction l with
  | nil => simp
  | cons e l ih =>
    have h1 := h e (by simp)
    have := lineL_len e h1.1 h1.2
    have := ih (fun x hx => h x (by simp [hx]))
    simp only [List.flatMap_cons, List.length_append, List.length_cons, List.length_nil]
    omega
theorem textL_snoc (l : List Ev) (k : Nat) (e : Ev) (h : l[k]? = some e) : textL (l.take (k + 1)) = textL (l.take k) ++ (lineL e ++ [10]) := by
  obtain ⟨hk, he⟩ := List.getElem?_eq_some_iff.1 h
  rw [List.take_succ_eq_append_getElem hk, textL_append, he]
  simp [textL]
theorem smallEvs.take {l : List Ev} (h : smallEvs l) (k : Nat) : smallEvs (l.take k) := fun e he => h e (List.mem_of_mem_take he)
theorem textL_take_len (l : List Ev) (h : smallEvs l) (k : Nat) (hl : l.length ≤ 1000) : (textL (l.take k)).length ≤ 701000 := by
  have := textL_len _ (h.take k)
  have : (l.take k).length ≤ l.length := by rw [List.length_take]; omega
  omega
set_option maxRecDepth 100000 in
set_option maxHeartbeats 400000 in
theorem text_any (v : Value) (l : List Ev) (w : World) (hv : EvsAt w v l) (sl : smallEvs l) (hl : l.length ≤ 1000) :
    Calls Try.prog 12 #[v] w fun e w' => e = .returned (.string ⟨(textL l).toArray⟩) ∧ Below w.heap.size w w' := by
  obtain ⟨a, cap, rfl, h1, h2, h3, h4⟩ := hv.get
  have H4 := Lib.hid h4; clear hv h3 h4
  have SL := Lib.hid sl; clear sl
  unfold maxLen at h2
  go_enter Try.func12, Try.ntmps12
  go_wp2_with fail
  go_loopg [8] l.length (fun g i wr => ∃ k : Nat, g = l.length - k ∧ k ≤ l.length ∧ i = .int .i64 k ∧ Lib.IsBuilder 51 5 w.heap.size w.heap.size (Lib.byteCells (textL (l.take k))) wr ∧ Below w.heap.size w wr)
  case atStart => exact ⟨0, rfl, by omega, rfl, by simpa [Lib.byteCells, textL] using Lib.fresh_isBuilder _ _ w, (Below.refl _ _).alloc (Nat.le_refl _) _⟩
  case round =>
    obtain ⟨k, hgk, hk, rfl, hb, hg⟩ := hrel
    have HBk := Lib.hid hb; have HGk := Lib.hid hg; have HK := Lib.hid hgk
    have hlb := isB_lt hb
    clear hb hg hgk
    by_cases hlt : k < l.length
    · obtain ⟨b, o, bv, nm, hab, hbl, c0, c1, c2, hn, hbv⟩ := H4.out k l[k] (List.getElem?_eq_getElem hlt)
      subst hab
      have d0 := (HGk.out.cell (p := ⟨b, o + k * 3, none⟩) hbl).trans c0
      have d1 := (HGk.out.cell (p := ⟨b, o + k * 3 + 1, none⟩) hbl).trans c1
      have d2 := (HGk.out.cell (p := ⟨b, o + k * 3 + 2, none⟩) hbl).trans c2
      have hwl := HGk.out.size
      have hbr : b < wr.heap.size := by omega
      have HS := Lib.hid (textL_snoc l k l[k] (List.getElem?_eq_getElem hlt))
      have s1 := SL.out _ (List.getElem_mem hlt)
      have HBV := Lib.hid hbv
      have HLL := Lib.hid (lineL_len _ s1.1 s1.2)
      generalize l[k] = e at *
      obtain ⟨ek, eb, en⟩ := e
      dsimp only at *
      subst hn
      obtain ⟨ab, cb, rfl, -, -, -, -⟩ := hbv
      rw [len_ba] at s1
      have S1 := Lib.hid s1
      clear c0 c1 c2 s1
      have hsz : ¬ ((⟨(lineL ⟨ek, eb, nm.data.toList⟩).toArray⟩ : ByteArray).size + (⟨#[10]⟩ : ByteArray).size > 9223372036854775807) := by
        have hq := HLL.out
        rw [str_size]
        show ¬ (_ + 1 > 9223372036854775807)
        omega
      go_wp2_with fail
      refine (line_any ek _ nm eb _ (HBV.out.later ?_) (by have := S1.out.1; omega) (by have := S1.out.2; omega)).mono ?_
      · repeat (first | with_reducible exact Below.refl _ _ | ((with_reducible refine Below.setCell ?_ ?_ _); rotate_left; focus (first | (simp; done) | (simp; omega) | omega)) | ((with_reducible refine Below.alloc ?_ ?_ _); rotate_left; focus (first | (simp; done) | (simp; omega) | omega)) | (with_reducible refine Below.drew ?_) | ((with_reducible refine Below.trans ?_ (Below.mono HGk.out ?_)); rotate_left; focus (first | (simp; done) | (simp; omega) | omega)))
      rintro e w1 ⟨rfl, hg1⟩
      have hb1 : Lib.IsBuilder 51 5 w.heap.size w.heap.size (Lib.byteCells (textL (l.take k))) w1 := isB_later HBk.out (by
        refine Below.trans ?_ (hg1.mono (by simp))
        repeat (first | with_reducible exact Below.refl _ _ | ((with_reducible refine Below.setCell ?_ ?_ _); rotate_left; focus (first | (simp; done) | (simp; omega) | omega)) | ((with_reducible refine Below.alloc ?_ ?_ _); rotate_left; focus (first | (simp; done) | (simp; omega) | omega)) | (with_reducible refine Below.drew ?_)))
      have hB1 : Below w.heap.size w w1 := by
        refine Below.trans ?_ (hg1.mono (by simp; omega))
        repeat (first | with_reducible exact Below.refl _ _ | ((with_reducible refine Below.setCell ?_ ?_ _); rotate_left; focus (first | (simp; done) | (simp; omega) | omega)) | ((with_reducible refine Below.alloc ?_ ?_ _); rotate_left; focus (first | (simp; done) | (simp; omega) | omega)) | (with_reducible refine Below.drew ?_) | ((with_reducible refine Below.trans ?_ (Below.mono HGk.out ?_)); rotate_left; focus (first | (simp; done) | (simp; omega) | omega)))
      have HB1 := Lib.hid hb1; have HW1 := Lib.hid hB1; have hz1 := hB1.size; clear hb1 hB1 hg1
      go_wp2_with fail
      refine (sbWriteString w.heap.size w.heap.size _ _ _ HB1.out ?_ (by omega)).mono ?_
      · have a1 := textL_take_len l SL.out k hl
        have a2 := HLL.out
        rw [Lib.byteCells_length, show _ = _ from str_append (lineL ⟨ek, eb, nm.data.toList⟩) [10], str_size, List.length_append, List.length_singleton]
        omega
      rintro e w2 ⟨rfl, hb2, hg2⟩
      have hb3 : Lib.IsBuilder 51 5 w.heap.size w.heap.size (Lib.byteCells (textL (l.take (k + 1)))) w2 := by
        rw [HS.out, Lib.byteCells_append]
        rw [show _ = _ from str_append (lineL ⟨ek, eb, nm.data.toList⟩) [10]] at hb2
        exact hb2
      have HB3 := Lib.hid hb3; have HW3 := Lib.hid (HW1.out.trans hg2); clear hb2 hg2 hb3
      go_wp2_with fail
      go_roundg (l.length - (k + 1))
      case measure => rw [HK.out]; omega
      case rel => exact ⟨k + 1, rfl, by omega, by go_num, HB3.out, HW3.out⟩
    · have hks : l.take k = l := List.take_of_length_le (by omega)
      have hb := HBk.out
      have hz2 := HGk.out.size
      rw [hks] at hb
      have HB2 := Lib.hid hb; clear hb hks
      go_wp2_with fail
      refine (Try.Builder_String_any w.heap.size w.heap.size _ _ HB2.out (by omega)).mono ?_
      rintro e w4 ⟨rfl, hg4⟩
      have HG4 := Lib.hid hg4; clear hg4
      go_wp2_with fail
      go_ret
      exact ⟨rfl, HGk.out.trans HG4.out⟩
theorem shownL_snoc (l : List Ev) (k : Nat) (e : Ev) (h : l[k]? = some e) : shownL (l.take (k + 1)) = shownL (l.take k) ++ (if e.kind = 1 then e.bytes else []) := by
  obtain ⟨hk, he⟩ := List.getElem?_eq_some_iff.1 h
  rw [List.take_succ_eq_append_getElem hk, shownL_append, he]
  simp [shownL]
theorem shownL_len (l : List Ev) (h : smallEvs l) : (shownL l).length ≤ 200 * l.length := by
  unfold shownL
  induction l with
  | nil => simp
  | cons e l ih =>
    have h1 := (h e (by simp)).1
    have h2 := ih (fun x hx => h x (by simp [hx]))
    simp only [List.flatMap_cons, List.length_append, List.length_cons]
    have h3 : (if e.kind = 1 then e.bytes else []).length ≤ 200 := by split; exact h1; exact Nat.zero_le _
    omega
theorem shownL_take_len (l : List Ev) (h : smallEvs l) (k : Nat) (hl : l.length ≤ 1000) : (shownL (l.take k)).length ≤ 200000 := by
  have := shownL_len _ (h.take k)
  have : (l.take k).length ≤ l.length := by rw [List.length_take]; omega
  omega
set_option maxRecDepth 100000 in
set_option maxHeartbeats 400000 in
theorem shown_any (v : Value) (l : List Ev) (w : World) (hv : EvsAt w v l) (sl : smallEvs l) (hl : l.length ≤ 1000) :
    Calls Try.prog 14 #[v] w fun e w' => ∃ v', e = .returned v' ∧ OwnsB w' w.heap.size v' (shownL l) ∧ Below w.heap.size w w' := by
  obtain ⟨i0, hi, hz0, hz1, hz2⟩ := info_parts byteInfo
  obtain ⟨a, cap, rfl, h1, h2, h3, h4⟩ := hv.get
  have H4 := Lib.hid h4; clear hv h3 h4
  have SL := Lib.hid sl; clear sl
  unfold maxLen at h2
  go_enter Try.func14, Try.ntmps14
  go_wp2_with fail
  go_loopg [3, 8] l.length (fun g o i wr => ∃ k : Nat, g = l.length - k ∧ k ≤ l.length ∧ i = .int .i64 k ∧ OwnsB wr w.heap.size o (shownL (l.take k)) ∧ Below w.heap.size w wr)
  case atStart => exact ⟨0, rfl, by omega, rfl, World.ownsRow_nil _ _ _ _, Below.refl _ _⟩
  case round =>
    obtain ⟨k, hgk, hk, rfl, hb, hg⟩ := hrel
    have HBk := Lib.hid hb; have HGk := Lib.hid hg; have HK := Lib.hid hgk
    clear hb hg hgk
    by_cases hlt : k < l.length
    · obtain ⟨b, o, bv, nm, hab, hbl, c0, c1, c2, hn, hbv⟩ := H4.out k l[k] (List.getElem?_eq_getElem hlt)
      subst hab
      have d0 := (HGk.out.cell (p := ⟨b, o + k * 3, none⟩) hbl).trans c0
      have d1 := (HGk.out.cell (p := ⟨b, o + k * 3 + 1, none⟩) hbl).trans c1
      have d2 := (HGk.out.cell (p := ⟨b, o + k * 3 + 2, none⟩) hbl).trans c2
      have hwl := HGk.out.size
      have hbr : b < wr.heap.size := by omega
      have HS := Lib.hid (shownL_snoc l k l[k] (List.getElem?_eq_getElem hlt))
      have s1 := SL.out _ (List.getElem_mem hlt)
      have HBV := Lib.hid hbv
      generalize l[k] = e at *
      obtain ⟨ek, eb, en⟩ := e
      dsimp only at *
      subst hn
      have S1 := Lib.hid s1
      have T1 := Lib.hid (shownL_take_len l SL.out k hl)
      clear c0 c1 c2 s1
      by_cases q : ek = 1
      · subst q
        have hE := HS.out
        rw [if_pos rfl] at hE
        clear HS
        have HS2 := Lib.hid hE; clear hE
        obtain ⟨ab, cb, rfl, b1, b2, b3, b5⟩ := hbv
        cases ab with
        | none =>
          have hl0 : eb = [] := by have := b3.none_nil; simpa [Lib.byteCells] using this
          have hc0 := b5 rfl
          subst hl0 hc0
          clear b1 b2 b3 b5
          have hE := HS2.out
          rw [List.append_nil] at hE
          clear HS2
          have HS3 := Lib.hid hE; clear hE
          go_wp2_with (at_builtin; go_loud (refine wpList_append_own_none rfl _ _ 33 rfl w.heap.size 5 i0 1 Try.underlying33 hi _ _ _ rfl (owns_later HBk.out ?b0) rfl ?_))
          case b0 => repeat (first | with_reducible exact Below.refl _ _ | ((with_reducible refine Below.setCell ?_ ?_ _); rotate_left; focus (first | (simp; done) | (simp; omega) | omega)) | ((with_reducible refine Below.alloc ?_ ?_ _); rotate_left; focus (first | (simp; done) | (simp; omega) | omega)) | (with_reducible refine Below.drew ?_))
          go_roundg (l.length - (k + 1))
          case measure => rw [HK.out]; omega
          case rel =>
            refine ⟨k + 1, rfl, by omega, by go_num, ?_, ?_⟩
            · rw [HS3.out]
              refine owns_later HBk.out ?_
              repeat (first | with_reducible exact Below.refl _ _ | ((with_reducible refine Below.setCell ?_ ?_ _); rotate_left; focus (first | (simp; done) | (simp; omega) | omega)) | ((with_reducible refine Below.alloc ?_ ?_ _); rotate_left; focus (first | (simp; done) | (simp; omega) | omega)) | (with_reducible refine Below.drew ?_))
            · repeat (first | with_reducible exact Below.refl _ _ | ((with_reducible refine Below.setCell ?_ ?_ _); rotate_left; focus (first | (simp; done) | (simp; omega) | omega)) | ((with_reducible refine Below.alloc ?_ ?_ _); rotate_left; focus (first | (simp; done) | (simp; omega) | omega)) | (with_reducible refine Below.drew ?_) | ((with_reducible refine Below.trans ?_ (Below.mono HGk.out ?_)); rotate_left; focus (first | (simp; done) | (simp; omega) | omega)))
        | some ad =>
          have B3 := Lib.hid b3
          clear b3 b5
          go_wp2_with (at_builtin; refine wpList_append_own _ rfl _ _ 33 rfl w.heap.size 5 i0 (.int .u8 0) 1 1 Try.underlying33 hi hz0 hz1 hz2 rfl (by decide) _ _ _ rfl (owns_later HBk.out ?b0) ad eb.length cb (Lib.byteCells eb) rfl (by rw [Lib.byteCells_length]; omega) (B3.out.later ?b1).add ?c2 ?c3 ?c4 ?c5 ?_)
          case b0 => repeat (first | with_reducible exact Below.refl _ _ | ((with_reducible refine Below.setCell ?_ ?_ _); rotate_left; focus (first | (simp; done) | (simp; omega) | omega)) | ((with_reducible refine Below.alloc ?_ ?_ _); rotate_left; focus (first | (simp; done) | (simp; omega) | omega)) | (with_reducible refine Below.drew ?_))
          case b1 => repeat (first | with_reducible exact Below.refl _ _ | ((with_reducible refine Below.setCell ?_ ?_ _); rotate_left; focus (first | (simp; done) | (simp; omega) | omega)) | ((with_reducible refine Below.alloc ?_ ?_ _); rotate_left; focus (first | (simp; done) | (simp; omega) | omega)) | (with_reducible refine Below.drew ?_) | ((with_reducible refine Below.trans ?_ (Below.mono HGk.out ?_)); rotate_left; focus (first | (simp; done) | (simp; omega) | omega)))
          case c2 => intro u hu; simp only [Lib.byteCells, List.mem_map] at hu; obtain ⟨b, _, rfl⟩ := hu; rfl
          case c3 => have := T1.out; have := S1.out.1; unfold maxLen; omega
          case c4 => have := T1.out; have := S1.out.1; omega
          case c5 => simp; omega
          intro v' w1 hown' hgrow _
          have ho1 : OwnsB w1 w.heap.size v' (shownL (l.take (k + 1))) := ownsB_of hown' (by rw [HS2.out, Lib.byteCells_append])
          have hb1 : Below w.heap.size w w1 := by
            refine Below.grown ?_ hgrow ?_ (fun q hq => (HBk.out.lt q hq).1)
            · repeat (first | with_reducible exact Below.refl _ _ | ((with_reducible refine Below.setCell ?_ ?_ _); rotate_left; focus (first | (simp; done) | (simp; omega) | omega)) | ((with_reducible refine Below.alloc ?_ ?_ _); rotate_left; focus (first | (simp; done) | (simp; omega) | omega)) | (with_reducible refine Below.drew ?_) | ((with_reducible refine Below.trans ?_ (Below.mono HGk.out ?_)); rotate_left; focus (first | (simp; done) | (simp; omega) | omega)))
            · simp; omega
          have HO := Lib.hid ho1; have HB := Lib.hid hb1; clear hown' hgrow ho1 hb1
          go_wp2_with fail
          go_roundg (l.length - (k + 1))
          case measure => rw [HK.out]; omega
          case rel => exact ⟨k + 1, rfl, by omega, by go_num, HO.out, HB.out⟩
      · have hE := HS.out
        rw [if_neg q, List.append_nil] at hE
        clear HS
        have HS2 := Lib.hid hE; clear hE
        have q0 : (ek == 1) = false := by simpa using q
        clear q
        obtain ⟨ab, cb, rfl, -, -, -, -⟩ := hbv
        go_wp2_with fail
        go_roundg (l.length - (k + 1))
        case measure => rw [HK.out]; omega
        case rel =>
          refine ⟨k + 1, rfl, by omega, by go_num, ?_, ?_⟩
          · rw [HS2.out]
            refine owns_later HBk.out ?_
            repeat (first | with_reducible exact Below.refl _ _ | ((with_reducible refine Below.setCell ?_ ?_ _); rotate_left; focus (first | (simp; done) | (simp; omega) | omega)) | ((with_reducible refine Below.alloc ?_ ?_ _); rotate_left; focus (first | (simp; done) | (simp; omega) | omega)) | (with_reducible refine Below.drew ?_))
          · repeat (first | with_reducible exact Below.refl _ _ | ((with_reducible refine Below.setCell ?_ ?_ _); rotate_left; focus (first | (simp; done) | (simp; omega) | omega)) | ((with_reducible refine Below.alloc ?_ ?_ _); rotate_left; focus (first | (simp; done) | (simp; omega) | omega)) | (with_reducible refine Below.drew ?_) | ((with_reducible refine Below.trans ?_ (Below.mono HGk.out ?_)); rotate_left; focus (first | (simp; done) | (simp; omega) | omega)))
    · have hks : l.take k = l := List.take_of_length_le (by omega)
      have hb := HBk.out
      have hz2 := HGk.out.size
      rw [hks] at hb
      have HB2 := Lib.hid hb; clear hb hks
      go_wp2_with fail
      go_ret
      exact ⟨_, rfl, HB2.out, HGk.out⟩
end Go.Proofs.Ytffmkmhnhecmnaa
