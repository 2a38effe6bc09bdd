/- pack.Words: words as bytes. -/
import Derived.Test.YtaillinlbbhdkaaDoorPackWe
namespace Go.Proofs.YtaillinlbbhdkaaDoor
open Go.RowKit
set_option linter.unusedVariables false
theorem byte_at (x j : Nat) : (x : Int) / 2 ^ (8 * j) % 256 = ((UInt8.ofNat (x / 256 ^ j % 256)).toNat : Int) := by
  have e1 : (2 : Int) ^ (8 * j) = ((256 ^ j : Nat) : Int) := by
    rw [Int.pow_mul, Int.natCast_pow]; rfl
  rw [e1, ← Int.natCast_ediv]
  have e2 : (UInt8.ofNat (x / 256 ^ j % 256)).toNat = x / 256 ^ j % 256 := by simp
  rw [e2]
  omega
set_option maxRecDepth 100000 in
set_option maxHeartbeats 1000000 in
theorem words_any (v : Value) (l : List Nat) (w : World) (h : WordsAt w v l) (hs : SmallW l) (hl : l.length ≤ 1000) :
    Calls Tryd.prog 24 #[v] w fun e w' => ∃ v', e = .returned v' ∧ OwnsB w' w.heap.size v' (wordsL l) ∧ Below w.heap.size w w' := by
  obtain ⟨i0, hi, hz0, hz1, hz2⟩ := info_parts byteInfo
  obtain ⟨a, ca, rfl, a1, a2, a3⟩ := h.get
  have A3 := Lib.hid (show ∀ W, Below w.heap.size w W → ∀ i (hi : i < l.length), ∃ b o, a = some ⟨b, o, none⟩ ∧ W.cell? ⟨b, o + i, none⟩ = some (.int .u64 (l[i] : Int)) from fun W hW i hi => by
    obtain ⟨b, o, h1, h2, h3⟩ := a3 i hi
    exact ⟨b, o, h1, (hW.cell (p := ⟨b, o + i, none⟩) h2).trans h3⟩)
  have HS := Lib.hid hs
  unfold maxLen at a2
  clear a3 h hs
  obtain ⟨w0, hmk, ho0, hg0⟩ := run_make_own (P := Tryd.prog) w w.heap.size 34 5 i0 (.int .u8 0) 1 Tryd.underlying34 hi hz0 hz1 .i64 .i64 (8 * l.length) (by rw [hz2]; omega) (by unfold maxLen; omega) (Nat.le_refl _)
  rw [show ((8 * l.length : Nat) : Int) = 8 * (l.length : Int) by omega] at hmk
  have HO0 := Lib.hid (show OwnsB w0 w.heap.size _ (wordsL (l.take 0)) from ho0)
  have HG0 := Lib.hid (show Below w.heap.size w w0 from (Below.refl _ _).grown hg0 (Nat.le_refl _) (fun q hq => by cases hq))
  clear ho0 hg0
  go_enter Tryd.func24, Tryd.ntmps24
  go_wp2_with fail
  go_loopg [3, 13] l.length (fun gg s3 s13 wr => ∃ i : Nat, gg = l.length - i ∧ i ≤ l.length ∧ s13 = .int .i64 (i : Int) ∧ OwnsB wr w.heap.size s3 (wordsL (l.take i)) ∧ Below w.heap.size w wr)
  case atStart => exact ⟨0, rfl, by omega, rfl, HO0.out, HG0.out⟩
  case round =>
    obtain ⟨i, hgi, hi1, rfl, ho, hg⟩ := hrel
    obtain ⟨w5, hw5⟩ : ∃ z, z = wr := ⟨_, rfl⟩
    subst hw5
    have HGI := Lib.hid hgi; have HO := Lib.hid ho; have HG := Lib.hid hg
    have hwl := hg.size
    clear hgi ho hg HO0 HG0 hmk
    by_cases hlt : i < l.length
    · obtain ⟨c, o, rfl, hc⟩ := A3.out w5 HG.out i hlt
      have hlen : (wordsL (l.take i)).length ≤ 100000 := by rw [wordsL_len, List.length_take]; omega
      have hx := HS.out l[i] (List.getElem_mem hlt)
      have HSN := Lib.hid (wordsL_snoc l i hlt)
      generalize l[i] = x at *
      go_wp2_with fail
      go_loopg [3, 17] 8 (fun gg s3 s17 wx => ∃ j : Nat, gg = 8 - j ∧ j ≤ 8 ∧ s17 = .int .i64 (j : Int) ∧ OwnsB wx w.heap.size s3 (wordsL (l.take i) ++ leBytes x j) ∧ Below w.heap.size w wx)
      case atStart => exact ⟨0, rfl, by omega, rfl, by simpa [leBytes] using HO.out, HG.out⟩
      case round =>
        obtain ⟨j, hgj, hj, rfl, ho, hg⟩ := hrel
        have HGJ := Lib.hid hgj; have HOj := Lib.hid ho; have HGj := Lib.hid hg
        have hwj := hg.size
        clear hgj ho hg HO HG
        have hll : (wordsL (l.take i) ++ leBytes x j).length = (wordsL (l.take i)).length + j := by rw [List.length_append, leBytes_len]
        by_cases hjl : j < 8
        · have HSN2 := Lib.hid (show leBytes x (j + 1) = leBytes x j ++ [UInt8.ofNat (x / 256 ^ j % 256)] from rfl)
          have HBA := Lib.hid (byte_at x j)
          go_wp2_with (at_builtin; refine wpList_append_own _ rfl _ _ 34 rfl w.heap.size 5 i0 (.int .u8 0) 1 1 Tryd.underlying34 hi hz0 hz1 hz2 rfl (by decide) _ _ _ rfl (HOj.out.alloc _) ⟨_, 0, none⟩ 1 1 [.int .u8 ((x : Int) / 2 ^ (8 * j) % 256)] rfl rfl (cell_one_new _ _ _) ?c2 ?c3 ?c4 ?c5 ?_)
          case c2 => intro u hu; simp at hu; subst hu; rfl
          case c3 => rw [hll]; unfold maxLen; omega
          case c4 => rw [hll]; omega
          case c5 => simp; omega
          intro v' w7 hown' hgrow _
          have ho1 : OwnsB w7 w.heap.size v' (wordsL (l.take i) ++ leBytes x (j + 1)) := ownsB_of hown' (by
            rw [HSN2.out, ← List.append_assoc, HBA.out]
            simp only [Lib.byteCells_append]
            rfl)
          have hb1 : Below w.heap.size w w7 := (HGj.out.alloc hwj _).grown hgrow (by simp; omega) (fun q hq => (HOj.out.lt q hq).1)
          have HO7 := Lib.hid ho1; have HB7 := Lib.hid hb1; clear hown' hgrow ho1 hb1
          go_wp2_with fail
          all_goals (try (exfalso; go_light; omega))
          go_roundg (8 - (j + 1))
          case measure => rw [HGJ.out]; omega
          case rel => exact ⟨j + 1, rfl, by omega, by go_num, HO7.out, HB7.out⟩
        · have hj8 : j = 8 := by omega
          subst hj8
          have HO8 := Lib.hid (show OwnsB wr w.heap.size _ (wordsL (l.take (i + 1))) by rw [HSN.out]; exact HOj.out)
          go_wp2_with fail
          all_goals (try (exfalso; go_light; omega))
          go_roundg (l.length - (i + 1))
          case measure => rw [HGI.out]; omega
          case rel => exact ⟨i + 1, rfl, by omega, by go_num, HO8.out, HGj.out⟩
    · have ht : l.take i = l := List.take_of_length_le (by omega)
      have ho := HO.out
      rw [ht] at ho
      have HO2 := Lib.hid ho
      clear ho ht
      go_wp2_with fail
      go_ret
      exact ⟨_, rfl, HO2.out, HG.out⟩
end Go.Proofs.YtaillinlbbhdkaaDoor
