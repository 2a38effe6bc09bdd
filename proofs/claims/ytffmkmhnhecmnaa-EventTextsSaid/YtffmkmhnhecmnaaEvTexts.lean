/- The text of the document's events; the digest. -/
import Derived.Test.YtffmkmhnhecmnaaEvParse
import Derived.Test.YtffmkmhnhecmnaaEvWalk
import Derived.Test.YtffmkmhnhecmnaaPackCrc
namespace Go.Proofs.Ytffmkmhnhecmnaa
open Go.RowKit
set_option linter.unusedVariables false
set_option maxRecDepth 100000 in
theorem rtext_any (v : Value) (l : List Ev) (w : World) (hv : EvsAt w v l) (sl : smallEvs l) (hl : l.length ≤ 1000) :
    Calls Try.prog 15 #[v] w fun e w' => e = .returned (.string ⟨(textL l).toArray⟩) ∧ Below w.heap.size w w' := by
  obtain ⟨a, cap, rfl, h1, h2, h3, h4⟩ := hv.get
  have H4 := Lib.hid h4; clear hv h3 h4
  have SL := Lib.hid sl; clear sl
  unfold maxLen at h2
  go_enter Try.func15, Try.ntmps15
  go_wp2_with fail
  go_loopg [3, 4] l.length (fun g s i wr => ∃ k : Nat, g = l.length - k ∧ k ≤ l.length ∧ i = .int .i64 k ∧ s = .string ⟨(textL (l.take k)).toArray⟩ ∧ Below w.heap.size w wr)
  case atStart => exact ⟨0, rfl, by omega, rfl, rfl, Below.refl _ _⟩
  case round =>
    obtain ⟨k, hgk, hk, rfl, rfl, hg⟩ := hrel
    have HGk := Lib.hid hg; have HK := Lib.hid hgk
    clear hg hgk
    by_cases hlt : k < l.length
    · obtain ⟨b, o, bv, nm, hab, hbl, c0, c1, c2, hn, hbv⟩ := H4.out k l[k] (List.getElem?_eq_getElem hlt)
      subst hab
      have d0 := (HGk.out.cell (p := ⟨b, o + k * 3, none⟩) hbl).trans c0
      have d1 := (HGk.out.cell (p := ⟨b, o + k * 3 + 1, none⟩) hbl).trans c1
      have d2 := (HGk.out.cell (p := ⟨b, o + k * 3 + 2, none⟩) hbl).trans c2
      have hwl := HGk.out.size
      have hbr : b < wr.heap.size := by omega
      have hs1 := textL_snoc l k l[k] (List.getElem?_eq_getElem hlt)
      have s1 := SL.out _ (List.getElem_mem hlt)
      have HBV := Lib.hid (hbv.later HGk.out)
      have hll := lineL_len _ s1.1 s1.2
      have htl := textL_take_len l SL.out k hl
      generalize l[k] = e at *
      obtain ⟨ek, eb, en⟩ := e
      dsimp only at *
      subst hn
      obtain ⟨ab, cb, rfl, -, -, -, -⟩ := hbv
      rw [len_ba] at s1
      have LN := Lib.hid (rline_any ek _ nm eb wr HBV.out (by omega) (by omega))
      have hz1 : ¬ ((⟨(textL (l.take k)).toArray⟩ : ByteArray).size + (⟨(lineL ⟨ek, eb, nm.data.toList⟩).toArray⟩ : ByteArray).size > 9223372036854775807) := by rw [str_size, str_size]; omega
      have e1 := str_append (textL (l.take k)) (lineL ⟨ek, eb, nm.data.toList⟩)
      have hz2 : ¬ ((⟨(textL (l.take k) ++ lineL ⟨ek, eb, nm.data.toList⟩).toArray⟩ : ByteArray).size + (⟨#[10]⟩ : ByteArray).size > 9223372036854775807) := by
        rw [str_size, List.length_append]
        show ¬ (_ + 1 > 9223372036854775807)
        omega
      have e2 : (⟨(textL (l.take k) ++ lineL ⟨ek, eb, nm.data.toList⟩).toArray⟩ : ByteArray) ++ ⟨#[10]⟩ = ⟨(textL (l.take (k + 1))).toArray⟩ := by
        rw [hs1]
        have h := str_append (textL (l.take k) ++ lineL ⟨ek, eb, nm.data.toList⟩) [10]
        rw [List.append_assoc] at h
        exact h
      clear c0 c1 c2 s1 hs1 hll htl
      generalize (⟨(textL (l.take k)).toArray⟩ : ByteArray) = s1 at *
      generalize (⟨(lineL ⟨ek, eb, nm.data.toList⟩).toArray⟩ : ByteArray) = s2 at *
      generalize (⟨(textL (l.take k) ++ lineL ⟨ek, eb, nm.data.toList⟩).toArray⟩ : ByteArray) = s3 at *
      obtain ⟨s4, hs4⟩ : ∃ s4, (⟨(textL (l.take (k + 1))).toArray⟩ : ByteArray) = s4 := ⟨_, rfl⟩
      rw [hs4] at e2
      have HS4 := Lib.hid hs4
      clear hs4
      go_wp2_with fail
      refine LN.out.mono ?_
      rintro e w1 ⟨rfl, hg1⟩
      have HG1 := Lib.hid (HGk.out.trans (hg1.mono hwl)); clear hg1
      go_wp2_with fail
      all_goals (try (exfalso; go_light; omega))
      go_roundg (l.length - (k + 1))
      case measure => rw [HK.out]; omega
      case rel => exact ⟨k + 1, rfl, by omega, by go_num, by rw [HS4.out], HG1.out⟩
    · have hks : l.take k = l := List.take_of_length_le (by omega)
      rw [hks]
      go_wp2_with fail
      go_ret
      exact ⟨rfl, HGk.out⟩
set_option maxRecDepth 100000 in
theorem digest_any (v : Value) (l : List Ev) (w : World) (hv : EvsAt w v l) (sl : smallEvs l) (hl : l.length ≤ 1000) :
    Calls Try.prog 16 #[v] w fun e w' => e = .returned (.int .u32 ((crc (nats (textL l)) : Nat) : Int)) ∧ Below w.heap.size w w' := by
  have T := Lib.hid (text_any v l w hv sl hl)
  have hz : (⟨(textL l).toArray⟩ : ByteArray).size ≤ 1000000 := by have := textL_len l sl; rw [str_size]; omega
  have hd : (⟨(textL l).toArray⟩ : ByteArray).data.toList = textL l := by simp
  have CV := Lib.hid (fun W => conv_bytes (⟨(textL l).toArray⟩ : ByteArray) W hz)
  rw [hd] at CV
  clear hz hd
  obtain ⟨a, cap, rfl, -, -, -, -⟩ := hv.get
  generalize (⟨(textL l).toArray⟩ : ByteArray) = s at *
  clear hv sl
  go_enter Try.func16, Try.ntmps16
  go_wp2_with fail
  refine T.out.mono ?_
  rintro e w1 ⟨rfl, hg1⟩
  obtain ⟨a1, c1, w2, hcv, hby, hg2⟩ := CV.out w1
  have HB := Lib.hid (hby w2 rfl).1
  have HG1 := Lib.hid hg1
  have HG2 := Lib.hid (hg1.trans (hg2.mono hg1.size))
  clear hg1 hg2 hby
  go_wp2_with fail
  refine (crc_any _ _ w2 HB.out).mono ?_
  rintro e w3 ⟨rfl, hg⟩
  have HG3 := Lib.hid (HG2.out.trans (hg.mono HG2.out.size))
  clear hg
  go_wp2_with fail
  go_ret
  exact ⟨rfl, HG3.out⟩
end Go.Proofs.Ytffmkmhnhecmnaa
