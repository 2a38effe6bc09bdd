/- Text that was quoted, read back. -/
import Derived.Test.YtffmkmhnhecmnaaEvCut
import Derived.Deep.CutBlock
namespace Go.Proofs.Ytffmkmhnhecmnaa
open Go.RowKit
set_option linter.unusedVariables false
/-- a byte of text, by its place -/
theorem str_get (l : List UInt8) (i : Nat) (b : UInt8) (h : l[i]? = some b) : ∀ hh : i < (⟨l.toArray⟩ : ByteArray).size, (((⟨l.toArray⟩ : ByteArray)[i]'hh).toNat : Int) = (b.toNat : Int) := by
  obtain ⟨hi, he⟩ := List.getElem?_eq_some_iff.1 h
  intro hh
  have e : (⟨l.toArray⟩ : ByteArray)[i]'hh = b := by
    show (l.toArray)[i]'_ = b
    simp [he]
  rw [e]
set_option maxRecDepth 100000 in
theorem unquote_none (w : World) : Calls Try.prog 33 #[.string ⟨#[]⟩] w fun e w' => e = .returned (.tuple #[.string ⟨#[]⟩, .bool false]) ∧ w' = w := by
  go_enter Try.func33, Try.ntmps33
  go_wp2_with fail
  exact bodyPost_ret (v := .tuple #[.string ⟨#[]⟩, .bool false]) (by simp [results, Try.results33, go_sem]) rfl ⟨rfl, rfl⟩
theorem digit_index (d : Nat) (hd : d < 16) (w : World) : Calls Try.prog 40 #[.string ⟨#[48, 49, 50, 51, 52, 53, 54, 55, 56, 57, 97, 98, 99, 100, 101, 102]⟩, .int .u8 ((hexD d).toNat : Int)] w fun e w' => e = .returned (.int .i64 (d : Int)) ∧ w' = w := by
  have h := Try.strings_IndexByte ⟨#[48, 49, 50, 51, 52, 53, 54, 55, 56, 57, 97, 98, 99, 100, 101, 102]⟩ ((hexD d).toNat : Int) w
  rw [show ((hexD d).toNat : Int).toNat.toUInt8 = hexD d by simp] at h
  rw [show Lib.indexByte (⟨#[48, 49, 50, 51, 52, 53, 54, 55, 56, 57, 97, 98, 99, 100, 101, 102]⟩ : ByteArray).data.toList (hexD d) = (d : Int) from index_digit d hd] at h
  exact h
set_option maxRecDepth 100000 in
theorem or16 : ∀ a : Fin 16, ∀ b : Fin 16, bits BinOp.or IntKind.i64 ((a.val : Int) * 16) (b.val : Int) % 256 = (a.val : Int) * 16 + b.val := by decide
set_option maxRecDepth 100000 in
theorem unquote_any (l : List UInt8) (w : World) (hl : l.length ≤ 200) :
    Calls Try.prog 33 #[.string ⟨(quoteL l).toArray⟩] w fun e w' => e = .returned (.tuple #[.string ⟨l.toArray⟩, .bool true]) ∧ Below w.heap.size w w' := by
  have hq := qAll_len l
  have hsz : (⟨(quoteL l).toArray⟩ : ByteArray).size = (qAll l).length + 2 := by show Array.size _ = _; simp [quoteL]
  have hex : (⟨(quoteL l).toArray⟩ : ByteArray).extract 1 ((qAll l).length + 1) = ⟨(qAll l).toArray⟩ := by
    rw [extract_l _ _ _ (by simp [quoteL])]; congr 1; simp [quoteL]
  have I0 := str_get (quoteL l) 0 34 (by simp [quoteL])
  have I1 := str_get (quoteL l) ((qAll l).length + 1) 34 (by unfold quoteL; rw [List.getElem?_cons_succ, List.getElem?_append_right (Nat.le_refl _)]; simp)
  have QT := Lib.hid (fun W => quote_any ⟨l.toArray⟩ W (by show Array.size _ ≤ _; simp; omega))
  rw [show (⟨l.toArray⟩ : ByteArray).data.toList = l by simp] at QT
  have I2 := Lib.hid (fun i b (h : (qAll l)[i]? = some b) => str_get (qAll l) i b h)
  generalize hs : (⟨(quoteL l).toArray⟩ : ByteArray) = s at *
  generalize ht : (⟨(qAll l).toArray⟩ : ByteArray) = t at *
  have htz : t.size = (qAll l).length := by rw [← ht]; show Array.size _ = _; simp
  clear hs ht
  generalize hn : (qAll l).length = n at *
  have I0 := I0 (by omega)
  have I1 := I1 (by omega)
  rw [show ((34 : UInt8).toNat : Int) = 34 from rfl] at I0 I1
  rw [show n + 1 = n + 2 - 1 from rfl] at hex
  go_enter Try.func33, Try.ntmps33
  go_wp2_with fail
  simp only [hex]
  go_loopg [6] l.length (fun gg s6 wr => ∃ k : Nat, gg = l.length - k ∧ k ≤ l.length ∧ s6 = .int .i64 (qPos l k : Int) ∧ Lib.IsBuilder 51 5 w.heap.size w.heap.size (Lib.byteCells (l.take k)) wr ∧ Below w.heap.size w wr)
  case atStart => exact ⟨0, rfl, by omega, rfl, by simpa [Lib.byteCells] using Lib.fresh_isBuilder _ _ w, (Below.refl _ _).alloc (Nat.le_refl _) _⟩
  case round =>
    obtain ⟨k, hgk, hk, rfl, hb, hg⟩ := hrel
    have HB := Lib.hid hb; have HG := Lib.hid hg; have HK := Lib.hid hgk
    have hwl := hg.size
    clear hb hg hgk
    by_cases hlt : k < l.length
    · have hlen : (Lib.byteCells (l.take k)).length ≤ 200 := by rw [Lib.byteCells_length, List.length_take]; omega
      have hsn : Lib.byteCells (l.take k) ++ [.int .u8 (l[k].toNat : Int)] = Lib.byteCells (l.take (k + 1)) := by
        rw [List.take_succ_eq_append_getElem hlt, Lib.byteCells_append]; rfl
      have HSN := Lib.hid hsn
      clear hsn
      by_cases hp : plainB l[k] = true
      · obtain ⟨q1, q2, q3⟩ := q_plain l k hlt hp
        obtain ⟨q, hqq⟩ : ∃ q, qPos l k = q := ⟨_, rfl⟩
        rw [hqq] at q1 q2 q3 ⊢
        have hqt : q < t.size := by omega
        have hg0 := I2.out _ _ q1 hqt
        have hn92 := plain_not92 hp
        have Q2 := Lib.hid q2
        clear q1 q2 hp
        generalize l[k] = c at *
        clear hqq
        have WB := Lib.hid (fun W (hW : Lib.IsBuilder 51 5 w.heap.size w.heap.size (Lib.byteCells (l.take k)) W) (hz : w.heap.size ≤ W.heap.size) => sbWriteByte w.heap.size w.heap.size _ (c.toNat : Int) W hW (by omega) hz)
        have hn92' : ¬ (c.toNat : Int) = 92 := by omega
        clear hn92
        go_wp2_with fail
        all_goals (try (exfalso; go_light; omega))
        refine (WB.out wr HB.out hwl).mono ?_
        rintro e w3 ⟨rfl, hb3, hg3⟩
        rw [HSN.out] at hb3
        have HB3 := Lib.hid hb3; have HG3 := Lib.hid (HG.out.trans hg3); clear hb3 hg3
        go_wp2_with fail
        all_goals (try (exfalso; go_light; omega))
        go_roundg (l.length - (k + 1))
        case measure => rw [HK.out]; omega
        case rel => exact ⟨k + 1, rfl, by omega, by rw [Q2.out]; go_num, HB3.out, HG3.out⟩
      · obtain ⟨q1, q1', q1'', q2, q3⟩ := q_hex l k hlt hp
        obtain ⟨q, hqq⟩ : ∃ q, qPos l k = q := ⟨_, rfl⟩
        rw [hqq] at q1 q1' q1'' q2 q3 ⊢
        have hqt : q < t.size := by omega
        have hqt1 : q + 1 < t.size := by omega
        have hqt2 : q + 2 < t.size := by omega
        have hg0 := I2.out _ _ q1 hqt
        have hg1 := I2.out _ _ q1' hqt1
        have hg2 := I2.out _ _ q1'' hqt2
        rw [show ((92 : UInt8).toNat : Int) = 92 from rfl] at hg0
        have hc := l[k].toNat_lt
        have Q2 := Lib.hid q2
        clear q1 q1' q1'' q2 hp hqq
        generalize l[k] = c at *
        have WB := Lib.hid (fun W (hW : Lib.IsBuilder 51 5 w.heap.size w.heap.size (Lib.byteCells (l.take k)) W) (hz : w.heap.size ≤ W.heap.size) => sbWriteByte w.heap.size w.heap.size _ (c.toNat : Int) W hW (by omega) hz)
        have D1 := Lib.hid (fun W => digit_index (c.toNat / 16) (by omega) W)
        have D2 := Lib.hid (fun W => digit_index (c.toNat % 16) (by omega) W)
        generalize hexD (c.toNat / 16) = x1 at *
        generalize hexD (c.toNat % 16) = x2 at *
        go_wp2_with fail
        all_goals (try (exfalso; go_light; omega))
        have b1 : (q : Int) + 1 < (n : Int) := by omega
        have b2 : (q : Int) + 2 < (n : Int) := by omega
        have b1' : 0 ≤ (q : Int) + 1 := by omega
        have b2' : 0 ≤ (q : Int) + 2 := by omega
        have b3 : ((q : Int) + 1).toNat = q + 1 := by omega
        have b4 : ((q : Int) + 2).toNat = q + 2 := by omega
        go_quiet (first | (go_at_call 40; exact Calls.quiet_of_same (D1.out _)) | (go_at_call 40; exact Calls.quiet_of_same (D2.out _)))
        go_wp2_with fail
        all_goals (try (exfalso; go_light; omega))
        rw [show bits BinOp.or IntKind.i64 ((c.toNat : Int) / 16 * 16) ((c.toNat : Int) % 16) % 256 = (c.toNat : Int) from by
          have h := or16 ⟨c.toNat / 16, by omega⟩ ⟨c.toNat % 16, by omega⟩
          rw [show (((⟨c.toNat / 16, by omega⟩ : Fin 16).val : Nat) : Int) = (c.toNat : Int) / 16 by simp, show (((⟨c.toNat % 16, by omega⟩ : Fin 16).val : Nat) : Int) = (c.toNat : Int) % 16 by simp] at h
          rw [h]; omega]
        refine (WB.out (World.drewN wr _) (isB_later HB.out ⟨rfl, rfl, rfl, Nat.le_refl _, fun _ _ => rfl⟩) hwl).mono ?_
        rintro e w3 ⟨rfl, hb3, hg3⟩
        rw [HSN.out] at hb3
        have HB3 := Lib.hid hb3; have HG3 := Lib.hid (show Below w.heap.size w w3 from HG.out.trans ⟨hg3.os, hg3.tape, hg3.output, hg3.size, hg3.block⟩); clear hb3 hg3
        go_wp2_with fail
        all_goals (try (exfalso; go_light; omega))
        go_roundg (l.length - (k + 1))
        case measure => rw [HK.out]; omega
        case rel => exact ⟨k + 1, rfl, by omega, by rw [Q2.out]; go_num, HB3.out, HG3.out⟩
    · have hkl : k = l.length := by omega
      have hb := HB.out
      rw [hkl, List.take_length] at hb
      have hq0 : qPos l k = n := by rw [hkl, qPos_end, hn]
      rw [hq0]
      have HB2 := Lib.hid hb
      clear hb hq0 hkl
      go_wp2_with fail
      all_goals (try (exfalso; go_light; omega))
      refine (Try.Builder_String_any_f w.heap.size w.heap.size l _ (Lib.IsBuilderF.of HB2.out) hwl).mono ?_
      rintro e w5 ⟨rfl, hf, hg⟩
      have HF5 := Lib.hid hf; have HG5 := Lib.hid (HG.out.trans hg)
      clear hf hg
      go_wp2_with fail
      refine (Try.Builder_String_any_f w.heap.size w.heap.size l _ HF5.out HG5.out.size).mono ?_
      rintro e w6 ⟨rfl, hf, hg⟩
      have HG6 := Lib.hid (HG5.out.trans hg)
      clear hf hg
      go_wp2_with fail
      refine (QT.out _).mono ?_
      rintro e w7 ⟨rfl, hg⟩
      have HG7 := Lib.hid (HG6.out.trans (hg.mono HG6.out.size))
      clear hg
      go_wp2_with fail
      exact bodyPost_ret (v := .tuple #[.string ⟨l.toArray⟩, .bool true]) (by simp [results, Try.results33, go_sem]) rfl ⟨rfl, HG7.out⟩
end Go.Proofs.Ytffmkmhnhecmnaa
