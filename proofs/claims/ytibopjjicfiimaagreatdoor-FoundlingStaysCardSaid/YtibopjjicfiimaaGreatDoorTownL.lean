/- A town's memory while the law lays it: a class by its number, a symbol, a map of plain numbers, the names. -/
import Derived.Test.YtibopjjicfiimaaGreatDoorTownK
import Derived.Lib.ConvBytes
namespace Go.Proofs.YtibopjjicfiimaaGreatDoor
open Go.RowKit Go.Maps
set_option linter.unusedVariables false
theorem below_dnT {B : Nat} {w w' : World} (h : Below B w w') (n : Nat) : Below B w (w'.drewN n) := ⟨h.1, h.2, h.3, h.4, h.5⟩
set_option maxRecDepth 100000 in
/-- a class, by its number -/
theorem troot_any (cb nb T7 T5 nn nc n k x : Nat) (nm : ByteArray) (f : List UInt8 → Option Nat) (i : Int) (w : World) (hi : i = (k : Int) + 5)
    (h7 : w.heap[T7]? = some (.cells #[.map (some cb)] 50 (0, 0))) (h5 : w.heap[T5]? = some (.cells #[.slice (some ⟨nb, 0, none⟩) nn nc] 53 (0, 0))) (hk : k < nn) (hnn : nn ≤ 1000)
    (hc : w.cell? ⟨nb, k, none⟩ = some (.string nm)) (hns : nm.size ≤ maxLen) (hm : MapS 30 w cb f n) (hf : f nm.data.toList = some x) :
    Calls Tryz.prog 13 #[.int .i64 i, .pointer (some ⟨T7, 0, none⟩), .pointer (some ⟨T5, 0, none⟩)] w fun e w' => e = .returned (.int .u64 (x : Int)) ∧ Below w.heap.size w w' := by
  have hlk : ∀ nq, (Instr.lookup 50 (.map (some cb)) (.string nm) false).run Tryz.prog (w.drewN nq) = .ok (.int .u64 (x : Int)) (w.drewN nq) := fun nq => by
    have h1 := (hm.later (below_dnT (Below.refl _ w) nq)).look (T := 50) (s := nm) Tryz.underlying50 Tryz.underlying30 (by kernel_rfl) hns
    rw [hf] at h1
    exact h1
  have y7 := cellO h7 0
  have y5 := cellO h5 0
  simp at y7 y5
  have hi5 : i - 5 = (k : Int) := by omega
  have hkk : (k : Int) < nn := by omega
  have hib : 0 ≤ i ∧ i ≤ 2000 := by omega
  clear hm hf h7 h5 hi
  go_enter Tryz.func13, Tryz.ntmps13
  go_upto_region 1 with fail
  go_quiet (fail)
  go_wp2_with fail
  go_ret
  exact ⟨rfl, below_dnT (Below.refl _ w) _⟩
theorem len_baT (s : ByteArray) : s.data.toList.length = s.size := by simp
theorem bytes_convT (s : ByteArray) (w : World) (hs : s.size ≤ 1000000) : BytesAt (Lib.bytesWorld w 5 s) (.slice (some ⟨w.heap.size, 0, none⟩) s.size (grownCap w s.size 0 5)) s.data.toList ∧ Below w.heap.size w (Lib.bytesWorld w 5 s) := by
  constructor
  · refine ⟨_, _, by rw [len_baT], by rw [len_baT]; exact grownCap_ge w s.size 0 _, grownCap_le_maxLen w s.size 0 _ (by unfold maxLen; omega), Or.inr ⟨w.heap.size, 0, rfl, fun j hj => ?_⟩, fun h => by cases h⟩
    rw [Lib.byteCells_length, len_baT] at hj
    rw [Nat.zero_add, Lib.bytesWorld_cell w _ s j hj]
    have hj2 : j < s.data.toList.length := by rw [len_baT]; exact hj
    unfold Lib.byteCells
    rw [List.getElem?_map, List.getElem?_eq_getElem hj2]
    simp [List.getD, List.getElem?_eq_getElem hj2]
  · refine ⟨rfl, rfl, rfl, ?_, fun p hp => Lib.bytesWorld_at_old w _ s p hp⟩
    rw [Lib.bytesWorld_size]; omega
theorem MapS.mapBlk {E : TypeId} {w : World} {b n : Nat} {f : List UInt8 → Option Nat} (h : MapS E w b f n) : ∃ es cl, w.heap[b]? = some (.map es cl) := by
  obtain ⟨D, ⟨es, clock, h1, h3⟩, h2⟩ := h
  exact ⟨es, clock, h1⟩
/-- the map's words are pointers -/
def PtrM (L : List Sg) (f : List UInt8 → Option Nat) : Prop := ∀ s v, f s = some v → IsP L v
theorem PtrM.upd {L : List Sg} {f : List UInt8 → Option Nat} {s : List UInt8} {x : Nat} (h : PtrM L f) (hx : IsP L x) : PtrM L (updS f s x) := fun t v hv => by
  unfold updS at hv
  split at hv
  · simp at hv; subst hv; exact hx
  · exact h t v hv
theorem PtrM.mono {L L' : List Sg} {f : List UInt8 → Option Nat} (h : PtrM L f) (hs : L ⊆ L') : PtrM L' f := fun s v hv => (h s v hv).mono hs
set_option maxRecDepth 100000 in
set_option maxHeartbeats 3200000 in
/-- a symbol -/
theorem tsym_any (C P sb : Nat) (la : Option Addr) (ln lc root : Nat) (L : List Sg) (f : List UInt8 → Option Nat) (n : Nat) (s : ByteArray) (w : World) (h : Twn C P sb w la ln lc root L) (hm : MapS 30 w sb f n) (hf : PtrM L f) (hn : n ≤ 1000) (hC : C ≤ sb)
    (hs : 0 < s.size % 8) (hs2 : s.size ≤ 24) (hu : usedS L + 5 ≤ 3000) :
    Calls Tryz.prog 16 #[.pointer (some ⟨P, 0, none⟩), .string s] w fun e w' => ∃ (x : Nat) (la' : Option Addr) (ln' lc' : Nat) (L' : List Sg) (f' : List UInt8 → Option Nat) (n' : Nat), e = .returned (.int .u64 (x : Int)) ∧ IsP L' x ∧ Twn C P sb w' la' ln' lc' root L' ∧ L ⊆ L' ∧ usedS L' ≤ usedS L + 5 ∧
      MapS 30 w' sb f' n' ∧ PtrM L' f' ∧ n' ≤ n + 1 ∧ Fr (fun q => q = P ∨ q = sb) w w' ∧ Below C w w' := by
  have hsm : s.size ≤ maxLen := by unfold maxLen; omega
  have hlk := hm.look (T := 50) (s := s) Tryz.underlying50 Tryz.underlying30 (by kernel_rfl) hsm
  have y3 := cellO h.blk 3
  simp at y3
  have hPl := h.lt
  have HT := Lib.hid h; have HM := Lib.hid hm; have HF := Lib.hid hf
  by_cases hz : (f s.data.toList).getD 0 = 0
  · rw [hz] at hlk
    have HADD := Lib.hid (fun W (hW : Below w.heap.size w W) v (hb : BytesAt W v s.data.toList) => tadd_any C P sb la ln lc root L W (h.later hW) 2 s.size (.slice none 0 0) v s.data.toList (by omega) (numSl_none _ _ _ _ _) hb (len_baT s) (fun _ => hs) (by unfold cellsS; simp; omega))
    have hCw : C ≤ w.heap.size := Nat.le_of_lt (Nat.lt_of_le_of_lt h.hP h.lt)
    have kc := fun (W : World) => Lib.run_convert_string_bytes (P := Tryz.prog) W 9 43 5 s Tryz.underlying9 Tryz.underlying43 Tryz.underlying5
    obtain ⟨W1, hW1⟩ : ∃ W1, W1 = Lib.bytesWorld w.drew 5 s := ⟨_, rfl⟩
    have hbc : BytesAt (Lib.bytesWorld w.drew 5 s) (.slice (some ⟨w.heap.size, 0, none⟩) s.size (grownCap w.drew s.size 0 5)) s.data.toList ∧ Below w.heap.size w.drew (Lib.bytesWorld w.drew 5 s) := bytes_convT s w.drew (by omega)
    have g1 : Below w.heap.size w W1 := by rw [hW1]; exact (Below.refl _ w).drew.trans hbc.2
    have CALL := Lib.hid (HADD.out W1 g1 _ (by rw [hW1]; exact hbc.1))
    rw [hW1] at CALL
    have y3' : (Lib.bytesWorld w.drew 5 s).cell? ⟨P, 3, none⟩ = some (.map (some sb)) := by rw [← hW1]; exact (g1.cell (p := ⟨P, 3, none⟩) hPl).trans y3
    have G1 := Lib.hid g1
    have hPs : P ≠ sb := by
      obtain ⟨es, cl, hb⟩ := hm.mapBlk
      rintro rfl
      have := h.blk
      rw [hb] at this
      simp at this
    rw [hW1] at G1
    have HU2 := Lib.hid (show usedS (L ++ [(usedS L, (2 : Int), s.size)]) ≤ usedS L + 5 by rw [usedS_snoc]; unfold cellsS; simp; omega)
    have FIN := Lib.hid (show ∀ (x : Nat) (la' : Option Addr) (lc' : Nat) (w8 : World), x = 2 * usedS L → Twn C P sb w8 la' (ln + 1) lc' root (L ++ [(usedS L, 2, s.size)]) → Fr (fun q => q = P) (Lib.bytesWorld w.drew 5 s) w8 → Below C (Lib.bytesWorld w.drew 5 s) w8 →
        w8.cell? ⟨P, 3, none⟩ = some (.map (some sb)) ∧ ∃ w9, (Instr.mapUpdate 50 (.map (some sb)) (.string s) (.int .u64 (x : Int))).run Tryz.prog w8 = .ok () w9 ∧ w9.cell? ⟨P, 3, none⟩ = some (.map (some sb)) ∧
          (∃ la' ln' lc' L' f' n', IsP L' x ∧ Twn C P sb w9 la' ln' lc' root L' ∧ L ⊆ L' ∧ usedS L' ≤ usedS L + 5 ∧ MapS 30 w9 sb f' n' ∧ f' s.data.toList = some x ∧ PtrM L' f' ∧ n' ≤ n + 1 ∧ Fr (fun q => q = P ∨ q = sb) w w9 ∧ Below C w w9) by
      intro x la' lc' w8 hx ht hfr hb
      rw [← hW1] at hfr hb
      have hm1 := HM.out.later g1
      obtain ⟨es, cl, hmb⟩ := hm1.mapBlk
      have hm8 : MapS 30 w8 sb f n := hm1.block ((hfr.map hmb (fun e => hPs e.symm)).trans hmb.symm)
      have hx64 : x < 18446744073709551616 := by omega
      obtain ⟨w9, hrun, hm9, hg9⟩ := hm8.store (T := 50) (s := s) (y := x) Tryz.underlying50 Tryz.underlying30 hsm hx64 (by omega)
      obtain ⟨es8, cl8, hmb8⟩ := hm8.mapBlk
      have ht9 := ht.map hmb8 hg9
      have hxp : IsP (L ++ [(usedS L, (2 : Int), s.size)]) x := ⟨_, List.mem_append_right _ (List.mem_singleton.2 rfl), hx⟩
      have hbl : C ≤ w8.heap.size := by have := hb.size; have := g1.size; omega
      refine ⟨by have := cellO ht.blk 3; simpa using this, w9, hrun, by have := cellO ht9.blk 3; simpa using this, la', _, lc', _, _, _, hxp, ht9, sub_snoc _ _, HU2.out, hm9, by unfold updS; rw [if_pos rfl], (HF.out.mono (sub_snoc _ _)).upd hxp, Nat.le_refl _, ?_, ?_⟩
      · exact ((Fr.below g1).trans (hfr.mono fun q hq => Or.inl hq)).trans (Fr.grown hg9 fun q hq => Or.inr (by simpa using hq.symm))
      · exact ((g1.mono hCw).trans hb).grown hg9 hbl (fun q hq => by simp at hq; omega))
    clear h hm hf HADD hbc g1 hW1
    go_enter Tryz.func16, Tryz.ntmps16
    go_upto_region 2 with fail
    go_cut [] from 12 to 20 (fun wx => ∃ x la' ln' lc' L' f' n', IsP L' x ∧ Twn C P sb wx la' ln' lc' root L' ∧ L ⊆ L' ∧ usedS L' ≤ usedS L + 5 ∧ MapS 30 wx sb f' n' ∧ f' s.data.toList = some x ∧ PtrM L' f' ∧ n' ≤ n + 1 ∧ Fr (fun q => q = P ∨ q = sb) w wx ∧ Below C w wx)
    case first =>
      go_region_with
        (first | (go_at_call 12; with_reducible (refine CALL.out.mono ?_); rintro e w8 ⟨x, la8, lc8, rfl, hx, ht8, hf8, hb8⟩; obtain ⟨z8, w9, hrun9, z9, hk9⟩ := FIN.out x la8 lc8 w8 hx ht8 hf8 hb8; have HK9 := Lib.hid hk9; clear hk9 ht8 hf8 hb8 hx))
      all_goals (go_wp2_with fail)
      all_goals go_meet
      all_goals exact ⟨x, HK9.out⟩
    case rest =>
      obtain ⟨x, la', ln', lc', L', f', n', hx, ht, hsub, hus, hm', hfx, hpf, hn', hfr, hb⟩ := hcut
      have hlk9 := hm'.look (T := 50) (s := s) Tryz.underlying50 Tryz.underlying30 (by kernel_rfl) hsm
      rw [hfx] at hlk9
      simp only [Option.getD_some] at hlk9
      have z3 := cellO ht.blk 3
      simp at z3
      have HEND := Lib.hid (show IsP L' x ∧ Twn C P sb wc la' ln' lc' root L' ∧ L ⊆ L' ∧ usedS L' ≤ usedS L + 5 ∧ MapS 30 wc sb f' n' ∧ PtrM L' f' ∧ n' ≤ n + 1 ∧ Fr (fun q => q = P ∨ q = sb) w wc ∧ Below C w wc from ⟨hx, ht, hsub, hus, hm', hpf, hn', hfr, hb⟩)
      clear hx ht hsub hus hm' hpf hn' hfr hb hfx hlk y3 kc y3'
      go_wp2_with fail
      go_ret
      exact ⟨x, la', ln', lc', L', f', n', rfl, HEND.out⟩
  · obtain ⟨v, hv⟩ : ∃ v, f s.data.toList = some v := by
      cases hfs : f s.data.toList with
      | none => rw [hfs] at hz; exact absurd rfl hz
      | some v => exact ⟨v, rfl⟩
    rw [hv] at hlk hz
    simp only [Option.getD_some] at hlk hz
    have hz2 : ¬ (v : Int) = 0 := by omega
    have hz3 : ((v : Int) == 0) = false := by simpa using hz
    have HEND := Lib.hid (show IsP L v ∧ Twn C P sb w la ln lc root L ∧ L ⊆ L ∧ usedS L ≤ usedS L + 5 ∧ MapS 30 w sb f n ∧ PtrM L f ∧ n ≤ n + 1 ∧ Fr (fun q => q = P ∨ q = sb) w w ∧ Below C w w from ⟨hf _ _ hv, h, fun _ h => h, by omega, hm, hf, by omega, Fr.refl _ _, Below.refl _ _⟩)
    clear h hm hf hv
    go_enter Tryz.func16, Tryz.ntmps16
    go_wp2_with fail
    go_ret
    exact ⟨v, la, ln, lc, L, f, n, rfl, HEND.out⟩
/-- block b is a map of plain numbers by texts -/
def MapW (w : World) (b n : Nat) : Prop := ∃ D : DataW Unit, w.ownsMap Tryz.prog 9 (plainElem (H := Unit) Tryz.prog 2) b n D ∧ IsMap D
theorem MapW.lt {w : World} {b n : Nat} (h : MapW w b n) : b < w.heap.size := by obtain ⟨D, h, _⟩ := h; exact h.lt
theorem MapW.block {w w' : World} {b n : Nat} (h : MapW w b n) (hb : w'.heap[b]? = w.heap[b]?) : MapW w' b n := by
  obtain ⟨D, ⟨es, clock, h1, h3⟩, h2⟩ := h
  exact ⟨D, ⟨es, clock, hb.trans h1, h3⟩, h2⟩
theorem MapW.mapBlk {w : World} {b n : Nat} (h : MapW w b n) : ∃ es cl, w.heap[b]? = some (.map es cl) := by
  obtain ⟨D, ⟨es, clock, h1, h3⟩, h2⟩ := h
  exact ⟨es, clock, h1⟩
theorem MapW.made (w : World) : MapW (w.alloc (.map #[] 0)) w.heap.size 0 := ⟨.map [], World.ownsMap_made _ _ _ _, isMap_empty⟩
theorem wf_i64 {c : Int} (h : (Lit.int .i64 c).wf = true) : -9223372036854775808 ≤ c ∧ c < 9223372036854775808 := by
  have h1 : IntKind.i64.min = -9223372036854775808 := by decide
  have h2 : IntKind.i64.max = 9223372036854775807 := by decide
  simp only [Lit.wf, h1, h2] at h
  simp at h
  omega
theorem i64_wfT {c : Int} (h : -9223372036854775808 ≤ c ∧ c < 9223372036854775808) : (Lit.int .i64 c).wf = true := by
  have h1 : IntKind.i64.min = -9223372036854775808 := by decide
  have h2 : IntKind.i64.max = 9223372036854775807 := by decide
  simp only [Lit.wf, h1, h2]
  simp
  omega
theorem MapW.look {w : World} {b n : Nat} (h : MapW w b n) {s : ByteArray} (hs : s.size ≤ maxLen) : ∃ c : Int, (-9223372036854775808 ≤ c ∧ c < 9223372036854775808) ∧ ∀ w' : World, w'.heap[b]? = w.heap[b]? →
    (Instr.lookup 59 (.map (some b)) (.string s) false).run Tryz.prog w' = .ok (.int .i64 c) w' := by
  obtain ⟨D, h, hD⟩ := h
  obtain ⟨c, hrun, hat, hwf⟩ := h.lookup_int (t := 59) keyS Tryz.underlying59 Tryz.underlying2 (by kernel_rfl) (WideMaps.keyOf_string_mk Tryz.underlying9 hs)
  refine ⟨c, wf_i64 hwf, fun w' hb => ?_⟩
  obtain ⟨es, clock, h1, h3⟩ := h
  have h' : w'.ownsMap Tryz.prog 9 (plainElem (H := Unit) Tryz.prog 2) b n D := ⟨es, clock, hb.trans h1, h3⟩
  obtain ⟨c', hrun', hat', -⟩ := h'.lookup_int (t := 59) keyS Tryz.underlying59 Tryz.underlying2 (by kernel_rfl) (WideMaps.keyOf_string_mk Tryz.underlying9 hs)
  rw [hat] at hat'
  simp only [DataW.lit.injEq, Lit.int.injEq, true_and] at hat'
  rw [hat']
  exact hrun'
theorem MapW.store {w : World} {b n : Nat} (h : MapW w b n) {s : ByteArray} {y : Int} (hs : s.size ≤ maxLen) (hy : -9223372036854775808 ≤ y ∧ y < 9223372036854775808) (hn : n < 1000000000) :
    ∃ w', (Instr.mapUpdate 59 (.map (some b)) (.string s) (.int .i64 y)).run Tryz.prog w = .ok () w' ∧ MapW w' b (n + 1) ∧ w.grownBy w' (some b) := by
  obtain ⟨D, h, hD⟩ := h
  obtain ⟨w', hrun, hown, hgr⟩ := h.update keyS Tryz.underlying59 (by unfold maxLen; omega) (WideMaps.keyOf_string_mk Tryz.underlying9 hs) (plainElem_int Tryz.underlying2 (i64_wfT hy))
  exact ⟨w', hrun, ⟨_, hown, hD.put _ _⟩, hgr⟩
end Go.Proofs.YtibopjjicfiimaaGreatDoor
