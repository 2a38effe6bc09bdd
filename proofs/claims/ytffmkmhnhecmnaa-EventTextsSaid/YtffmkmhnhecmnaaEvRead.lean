/- A line, read back. -/
import Derived.Test.YtffmkmhnhecmnaaEvUnq
import Derived.Lib.ConvBytes
namespace Go.Proofs.Ytffmkmhnhecmnaa
open Go.RowKit
set_option linter.unusedVariables false
/-- bytes, in a block of bytes -/
def BytesTy (w : World) (v : Value) (l : List UInt8) : Prop := BytesAt w v l ∧ ∀ q, v.ownBlock = some q → ∃ c fr, w.heap[q]? = some (.cells c 5 fr)
theorem BytesTy.none (w : World) : BytesTy w (.slice none 0 0) [] := ⟨bytes_none w, fun q h => by cases h⟩
theorem BytesTy.of_blocks {w w' : World} {v : Value} {l : List UInt8} (h : BytesTy w v l) (hb : ∀ q, v.ownBlock = some q → w'.heap[q]? = w.heap[q]?) : BytesTy w' v l := by
  obtain ⟨⟨a, cap, rfl, h1, h2, h3, h4⟩, h5⟩ := h
  refine ⟨⟨a, cap, rfl, h1, h2, ?_, h4⟩, fun q hq => ?_⟩
  · rcases h3 with h3 | ⟨b, o, rfl, hc⟩
    · exact Or.inl h3
    · exact Or.inr ⟨b, o, rfl, fun j hj => by rw [World.cell?_of_block (a := ⟨b, o + j, Option.none⟩) (hb b rfl)]; exact hc j hj⟩
  · obtain ⟨c, fr, h6⟩ := h5 q hq
    exact ⟨c, fr, (hb q hq).trans h6⟩
theorem BytesTy.later {w w' : World} {v : Value} {l : List UInt8} (h : BytesTy w v l) (hb : Below w.heap.size w w') : BytesTy w' v l :=
  h.of_blocks fun q hq => by
    obtain ⟨c, fr, h6⟩ := h.2 q hq
    exact hb.block q (Array.getElem?_eq_some_iff.1 h6).1
theorem BytesTy.kept {w w' : World} {B e s n : Nat} {u v : Value} {l : List UInt8} {ys : List Value} (h : BytesTy w v l) (hv : w.ownsRow B e s u n ys) (he : 5 ≠ e) (hg : w.grownBy w' u.ownBlock) : BytesTy w' v l :=
  h.of_blocks fun q hq => by
    obtain ⟨c, fr, h6⟩ := h.2 q hq
    refine hg.block q (Array.getElem?_eq_some_iff.1 h6).1 (fun e' => ?_)
    rcases hv.2 with ⟨hu, -⟩ | ⟨g, cap, cur, hu, -, hgc, -⟩
    · rw [hu] at e'; cases e'
    · rw [hu] at e'
      have : g = q := by simpa [Value.ownBlock] using e'.symm
      subst this
      rw [h6] at hgc
      simp only [Option.some.injEq, Obj.cells.injEq] at hgc
      exact he hgc.2.1
/-- as 'EvCells', the bytes being in blocks of bytes -/
def EvTy (w : World) (xs : List Value) (es : List Ev) : Prop :=
  xs.length = es.length * 3 ∧ ∀ i e, es[i]? = some e → ∃ bv nm, xs[i * 3]? = some (.int .i64 e.kind) ∧ xs[i * 3 + 1]? = some bv ∧ xs[i * 3 + 2]? = some (.string nm) ∧ nm.data.toList = e.name ∧ BytesTy w bv e.bytes
theorem EvTy.nil (w : World) : EvTy w [] [] := ⟨rfl, fun i e h => by simp at h⟩
theorem EvTy.cells {w : World} {xs : List Value} {es : List Ev} (h : EvTy w xs es) : EvCells w xs es :=
  ⟨h.1, fun i e he => let ⟨bv, nm, a, b, c, d, f⟩ := h.2 i e he; ⟨bv, nm, a, b, c, d, f.1⟩⟩
theorem EvTy.later {w w' : World} {xs : List Value} {es : List Ev} (h : EvTy w xs es) (hb : Below w.heap.size w w') : EvTy w' xs es :=
  ⟨h.1, fun i e he => let ⟨bv, nm, a, b, c, d, f⟩ := h.2 i e he; ⟨bv, nm, a, b, c, d, f.later hb⟩⟩
theorem EvTy.kept {w w' : World} {B e s n : Nat} {v : Value} {xs ys : List Value} {es : List Ev} (h : EvTy w xs es) (hv : w.ownsRow B e s v n ys) (he : 5 ≠ e) (hg : w.grownBy w' v.ownBlock) : EvTy w' xs es :=
  ⟨h.1, fun i e' he' => let ⟨bv, nm, a, b, c, d, f⟩ := h.2 i e' he'; ⟨bv, nm, a, b, c, d, f.kept hv he hg⟩⟩
theorem EvTy.snoc {w : World} {xs : List Value} {es : List Ev} {bv : Value} {nm : ByteArray} {e : Ev} (h : EvTy w xs es) (hn : nm.data.toList = e.name) (hb : BytesTy w bv e.bytes) :
    EvTy w (xs ++ [.int .i64 e.kind, bv, .string nm]) (es ++ [e]) := by
  refine ⟨by rw [List.length_append, List.length_append, h.1]; simp; omega, fun i e' he => ?_⟩
  have hl := h.1
  by_cases hi : i < es.length
  · rw [List.getElem?_append_left hi] at he
    obtain ⟨bv', nm', a, b, c, d, f⟩ := h.2 i e' he
    exact ⟨bv', nm', by rw [List.getElem?_append_left (by omega)]; exact a, by rw [List.getElem?_append_left (by omega)]; exact b, by rw [List.getElem?_append_left (by omega)]; exact c, d, f⟩
  · rw [List.getElem?_append_right (by omega)] at he
    have hi' : i = es.length := by
      have := (List.getElem?_eq_some_iff.1 he).1
      simp at this; omega
    subst hi'
    simp at he
    subst he
    refine ⟨bv, nm, ?_, ?_, ?_, hn, hb⟩
    · rw [List.getElem?_append_right (by omega), hl]; simp
    · rw [List.getElem?_append_right (by omega), hl, show es.length * 3 + 1 - es.length * 3 = 1 by omega]; rfl
    · rw [List.getElem?_append_right (by omega), hl, show es.length * 3 + 2 - es.length * 3 = 2 by omega]; rfl
/-- a string's bytes, in a row of their own -/
theorem conv_bytes (s : ByteArray) (w : World) (hs : s.size ≤ 1000000) : ∃ a cap w', (convert 9 33 (.string s)).run Try.prog w = .ok (.slice a s.size cap) w' ∧ (∀ W, W.heap[w.heap.size]? = w'.heap[w.heap.size]? → BytesTy W (.slice a s.size cap) s.data.toList) ∧ Below w.heap.size w w' := by
  have h := Lib.run_convert_string_bytes (P := Try.prog) w 9 33 5 s Try.underlying9 Try.underlying33 Try.underlying5
  refine ⟨_, _, _, h, ?_, ?_⟩
  · intro W hW
    refine ⟨⟨_, _, by rw [len_ba], by rw [len_ba]; exact grownCap_ge w s.size 0 _, grownCap_le_maxLen w s.size 0 _ (by unfold maxLen; omega), Or.inr ⟨w.heap.size, 0, rfl, fun j hj => ?_⟩, fun h => by cases h⟩, fun q hq => by cases hq; exact ⟨_, _, hW.trans (Lib.bytesWorld_at_new w _ s)⟩⟩
    rw [Lib.byteCells_length, len_ba] at hj
    rw [Nat.zero_add, World.cell?_of_block (a := ⟨w.heap.size, j, none⟩) hW, Lib.bytesWorld_cell w _ s j hj]
    have hj2 : j < s.data.toList.length := by rw [len_ba]; exact hj
    unfold Lib.byteCells
    rw [List.getElem?_map, List.getElem?_eq_getElem hj2]
    simp [List.getD, List.getElem?_eq_getElem hj2]
  · refine ⟨rfl, rfl, rfl, ?_, fun p hp => Lib.bytesWorld_at_old w _ s p hp⟩
    rw [Lib.bytesWorld_size]; omega
set_option maxRecDepth 100000 in
theorem read_saved (w : World) : Calls Try.prog 26 #[.string ⟨#[115, 97, 118, 101, 100]⟩] w fun e w' => e = .returned (.tuple #[.agg #[.int .i64 3, .slice none 0 0, .string ⟨#[]⟩], .bool true]) ∧ Below w.heap.size w w' := by
  go_enter Try.func26, Try.ntmps26
  go_wp2_with fail
  refine bodyPost_ret (v := .tuple #[.agg #[.int .i64 3, .slice none 0 0, .string ⟨#[]⟩], .bool true]) (by simp [results, Try.results26, go_sem]) rfl ⟨rfl, ?_⟩
  repeat (first | with_reducible exact Below.refl _ _ | ((with_reducible refine Below.setCell ?_ ?_ _); rotate_left; focus (first | (simp; done) | (simp; omega) | omega)) | ((with_reducible refine Below.alloc ?_ ?_ _); rotate_left; focus (first | (simp; done) | (simp; omega) | omega)) | (with_reducible refine Below.drew ?_))
set_option maxRecDepth 100000 in
theorem read_out (l : List UInt8) (w : World) (hl : l.length ≤ 200) : Calls Try.prog 26 #[.string ⟨(sOut ++ quoteL l).toArray⟩] w fun e w' => ∃ a cap, e = .returned (.tuple #[.agg #[.int .i64 1, .slice a l.length cap, .string ⟨#[]⟩], .bool true]) ∧ BytesTy w' (.slice a l.length cap) l ∧ Below w.heap.size w w' := by
  have hq := qAll_len l
  have CU := Lib.hid (fun W => cut_any [111, 117, 116] (quoteL l) 32 W (by simp) (by simp [quoteL]; omega))
  have UQ := Lib.hid (fun W => unquote_any l W hl)
  rw [show ([111, 117, 116] ++ 32 :: quoteL l : List UInt8) = sOut ++ quoteL l from rfl] at CU
  have hne : ((⟨(sOut ++ quoteL l).toArray⟩ : ByteArray).toList == [115, 97, 118, 101, 100]) = false := by rw [Lib.toList_data]; simp [sOut]
  generalize (⟨(sOut ++ quoteL l).toArray⟩ : ByteArray) = s at *
  generalize (⟨(quoteL l).toArray⟩ : ByteArray) = t at *
  have hin : (⟨l.toArray⟩ : ByteArray).data.toList = l := by simp
  have HIN := Lib.hid hin
  have hsz : (⟨l.toArray⟩ : ByteArray).size ≤ 200 := by show Array.size _ ≤ 200; simpa using hl
  generalize (⟨l.toArray⟩ : ByteArray) = inn at *
  clear hq hin
  go_enter Try.func26, Try.ntmps26
  go_wp2_with fail
  refine (CU.out _).mono ?_
  rintro e w2 ⟨rfl, hg⟩
  have HG2 := Lib.hid (show Below w.heap.size w w2 from ((Below.refl _ w).alloc (Nat.le_refl _) _).trans (hg.mono (by simp)))
  have hc2 := (hg.block w.heap.size (by simp)).trans (heap_alloc_new w _)
  have hs2 := hg.size
  simp at hs2
  clear hg
  go_wp2_with fail
  refine (UQ.out _).mono ?_
  rintro e w3 ⟨rfl, hg⟩
  have hs3 := Nat.le_trans hs2 hg.size
  have HG3 := Lib.hid (HG2.out.trans (hg.mono HG2.out.size))
  have hc0 := (hg.block w.heap.size (by omega)).trans hc2
  clear hg
  have f0 : w3.frozen? ⟨w.heap.size, 0, none⟩ = false := by unfold World.frozen?; rw [hc0]; rfl
  have f1 : w3.frozen? ⟨w.heap.size, 1, none⟩ = false := by unfold World.frozen?; rw [hc0]; rfl
  have f2 : w3.frozen? ⟨w.heap.size, 2, none⟩ = false := by unfold World.frozen?; rw [hc0]; rfl
  have HC0 := Lib.hid hc0
  have x0 := cellO hc0 0
  have x1 := cellO hc0 1
  have x2 := cellO hc0 2
  simp at x0 x1 x2
  clear hc0 hc2
  obtain ⟨a, cap, w4, hcv, hby, hg4⟩ := conv_bytes inn w3 (by omega)
  rw [HIN.out] at hby
  have hl2 : inn.size = l.length := by rw [← HIN.out, len_ba]
  rw [hl2] at hcv hby
  have hc4 := (hg4.block w.heap.size (by omega)).trans HC0.out
  have HC4 := Lib.hid hc4
  have HG4 := Lib.hid (HG3.out.trans (hg4.mono HG3.out.size))
  have HBY := Lib.hid hby
  have y0 := cellO hc4 0
  have y1 := cellO hc4 1
  have y2 := cellO hc4 2
  simp at y0 y1 y2
  have hs4 := Nat.le_trans hs3 hg4.size
  have g0 : w4.frozen? ⟨w.heap.size, 0, none⟩ = false := by unfold World.frozen?; rw [hc4]; rfl
  have g1 : w4.frozen? ⟨w.heap.size, 1, none⟩ = false := by unfold World.frozen?; rw [hc4]; rfl
  have g2 : w4.frozen? ⟨w.heap.size, 2, none⟩ = false := by unfold World.frozen?; rw [hc4]; rfl
  clear hby hg4 hc4 x0 x1 x2 f0 f1 f2
  go_wp2_with fail
  refine bodyPost_ret (v := .tuple #[.agg #[.int .i64 1, .slice a l.length cap, .string ⟨#[]⟩], .bool true]) (by simp [results, Try.results26, go_sem, y0, y1, y2]) rfl ⟨a, cap, rfl, ?_, ?_⟩
  · refine HBY.out _ ?_
    rw [Below.heap_setCell _ _ _ _ (show w3.heap.size ≠ w.heap.size by omega), Below.heap_setCell _ _ _ _ (show w3.heap.size ≠ w.heap.size by omega), Below.heap_setCell _ _ _ _ (show w3.heap.size ≠ w.heap.size by omega)]
  · exact ((HG4.out.setCell (Nat.le_refl _) _).setCell (Nat.le_refl _) _).setCell (Nat.le_refl _) _
set_option maxRecDepth 100000 in
theorem read_fault (l : List UInt8) (w : World) (hl : l.length ≤ 200) : Calls Try.prog 26 #[.string ⟨(sFault ++ quoteL l).toArray⟩] w fun e w' => e = .returned (.tuple #[.agg #[.int .i64 2, .slice none 0 0, .string ⟨l.toArray⟩], .bool true]) ∧ Below w.heap.size w w' := by
  have hq := qAll_len l
  have CU := Lib.hid (fun W => cut_any [102, 97, 117, 108, 116] (quoteL l) 32 W (by simp) (by simp [quoteL]; omega))
  have UQ := Lib.hid (fun W => unquote_any l W hl)
  rw [show ([102, 97, 117, 108, 116] ++ 32 :: quoteL l : List UInt8) = sFault ++ quoteL l from rfl] at CU
  have hne : ((⟨(sFault ++ quoteL l).toArray⟩ : ByteArray).toList == [115, 97, 118, 101, 100]) = false := by rw [Lib.toList_data]; simp [sFault]
  generalize (⟨(sFault ++ quoteL l).toArray⟩ : ByteArray) = s at *
  generalize (⟨(quoteL l).toArray⟩ : ByteArray) = t at *
  have hin : (⟨l.toArray⟩ : ByteArray).data.toList = l := by simp
  have HIN := Lib.hid hin
  have hsz : (⟨l.toArray⟩ : ByteArray).size ≤ 200 := by show Array.size _ ≤ 200; simpa using hl
  generalize (⟨l.toArray⟩ : ByteArray) = inn at *
  clear hq hin
  go_enter Try.func26, Try.ntmps26
  go_wp2_with fail
  refine (CU.out _).mono ?_
  rintro e w2 ⟨rfl, hg⟩
  have HG2 := Lib.hid (show Below w.heap.size w w2 from ((Below.refl _ w).alloc (Nat.le_refl _) _).trans (hg.mono (by simp)))
  have hc2 := (hg.block w.heap.size (by simp)).trans (heap_alloc_new w _)
  have hs2 := hg.size
  simp at hs2
  clear hg
  go_wp2_with fail
  refine (UQ.out _).mono ?_
  rintro e w3 ⟨rfl, hg⟩
  have hs3 := Nat.le_trans hs2 hg.size
  have HG3 := Lib.hid (HG2.out.trans (hg.mono HG2.out.size))
  have hc0 := (hg.block w.heap.size (by omega)).trans hc2
  clear hg
  have f0 : w3.frozen? ⟨w.heap.size, 0, none⟩ = false := by unfold World.frozen?; rw [hc0]; rfl
  have f1 : w3.frozen? ⟨w.heap.size, 1, none⟩ = false := by unfold World.frozen?; rw [hc0]; rfl
  have f2 : w3.frozen? ⟨w.heap.size, 2, none⟩ = false := by unfold World.frozen?; rw [hc0]; rfl
  have HC0 := Lib.hid hc0
  have x0 := cellO hc0 0
  have x1 := cellO hc0 1
  have x2 := cellO hc0 2
  simp at x0 x1 x2
  clear hc0 hc2
  go_wp2_with fail
  refine bodyPost_ret (v := .tuple #[.agg #[.int .i64 2, .slice none 0 0, .string inn], .bool true]) (by simp [results, Try.results26, go_sem, x0, x1, x2]) rfl ⟨rfl, ?_⟩
  exact ((HG3.out.setCell (Nat.le_refl _) _).setCell (Nat.le_refl _) _).setCell (Nat.le_refl _) _
set_option maxRecDepth 100000 in
theorem read_none (w : World) : Calls Try.prog 26 #[.string ⟨#[63]⟩] w fun e w' => e = .returned (.tuple #[.agg #[.int .i64 0, .slice none 0 0, .string ⟨#[]⟩], .bool false]) ∧ Below w.heap.size w w' := by
  have CU := Lib.hid (fun W => cut_none [63] 32 W (by simp))
  have UQ := Lib.hid (fun W => unquote_none W)
  go_enter Try.func26, Try.ntmps26
  go_wp2_with fail
  refine (CU.out _).mono ?_
  rintro e w2 ⟨rfl, hg⟩
  have HG2 := Lib.hid (show Below w.heap.size w w2 from ((Below.refl _ w).alloc (Nat.le_refl _) _).trans (hg.mono (by simp)))
  have hc2 := (hg.block w.heap.size (by simp)).trans (heap_alloc_new w _)
  have hs2 := hg.size
  simp at hs2
  clear hg
  go_wp2_with fail
  refine (UQ.out _).mono ?_
  rintro e w3 ⟨rfl, hw3⟩
  subst hw3
  have hs3 := hs2
  have HG3 := HG2
  have hc0 := hc2
  have f0 : w3.frozen? ⟨w.heap.size, 0, none⟩ = false := by unfold World.frozen?; rw [hc0]; rfl
  have f1 : w3.frozen? ⟨w.heap.size, 1, none⟩ = false := by unfold World.frozen?; rw [hc0]; rfl
  have f2 : w3.frozen? ⟨w.heap.size, 2, none⟩ = false := by unfold World.frozen?; rw [hc0]; rfl
  have HC0 := Lib.hid hc0
  have x0 := cellO hc0 0
  have x1 := cellO hc0 1
  have x2 := cellO hc0 2
  simp at x0 x1 x2
  clear hc0 hc2
  go_wp2_with fail
  refine bodyPost_ret (v := .tuple #[.agg #[.int .i64 0, .slice none 0 0, .string ⟨#[]⟩], .bool false]) (by simp [results, Try.results26, go_sem, x0, x1, x2]) rfl ⟨rfl, ?_⟩
  exact ((HG3.out.setCell (Nat.le_refl _) _).setCell (Nat.le_refl _) _).setCell (Nat.le_refl _) _
/-- the line of an event that can be read, read -/
theorem read_yes (e : Ev) (w : World) (h1 : 1 ≤ e.kind) (h3 : e.kind ≤ 3) (hs : e.bytes.length ≤ 200 ∧ e.name.length ≤ 200) :
    Calls Try.prog 26 #[.string ⟨(lineL e).toArray⟩] w fun x w' => ∃ a cap nm, x = .returned (.tuple #[.agg #[.int .i64 (backE e).kind, .slice a (backE e).bytes.length cap, .string nm], .bool true]) ∧ nm.data.toList = (backE e).name ∧ BytesTy w' (.slice a (backE e).bytes.length cap) (backE e).bytes ∧ Below w.heap.size w w' := by
  by_cases a : e.kind = 1
  · rw [show lineL e = sOut ++ quoteL e.bytes by unfold lineL; rw [if_pos a], show backE e = ⟨1, e.bytes, []⟩ by unfold backE; rw [if_pos a]]
    refine (read_out e.bytes w hs.1).mono ?_
    rintro x w' ⟨a, cap, rfl, hb, hg⟩
    exact ⟨a, cap, ⟨#[]⟩, rfl, rfl, hb, hg⟩
  · by_cases b : e.kind = 2
    · rw [show lineL e = sFault ++ quoteL e.name by unfold lineL; rw [if_neg a, if_pos b], show backE e = ⟨2, [], e.name⟩ by unfold backE; rw [if_neg a, if_pos b]]
      refine (read_fault e.name w hs.2).mono ?_
      rintro x w' ⟨rfl, hg⟩
      exact ⟨none, 0, _, rfl, by simp, BytesTy.none _, hg⟩
    · have c : e.kind = 3 := by omega
      rw [show lineL e = sSaved by unfold lineL; rw [if_neg a, if_neg b, if_pos c], show backE e = ⟨3, [], []⟩ by unfold backE; rw [if_neg a, if_neg b]]
      refine (read_saved w).mono ?_
      rintro x w' ⟨rfl, hg⟩
      exact ⟨none, 0, _, rfl, rfl, BytesTy.none _, hg⟩
/-- the line of another kind -/
theorem read_no (e : Ev) (w : World) (h : ¬ (1 ≤ e.kind ∧ e.kind ≤ 3)) :
    Calls Try.prog 26 #[.string ⟨(lineL e).toArray⟩] w fun x w' => x = .returned (.tuple #[.agg #[.int .i64 0, .slice none 0 0, .string ⟨#[]⟩], .bool false]) ∧ Below w.heap.size w w' := by
  rw [show lineL e = sNone by unfold lineL; rw [if_neg (by omega), if_neg (by omega), if_neg (by omega)]]
  exact read_none w
end Go.Proofs.Ytffmkmhnhecmnaa
