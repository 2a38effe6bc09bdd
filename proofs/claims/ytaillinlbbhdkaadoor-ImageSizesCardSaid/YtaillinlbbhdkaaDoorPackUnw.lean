/- Bytes as words. -/
import Derived.Test.YtaillinlbbhdkaaDoorPackRange
import Derived.Test.YtaillinlbbhdkaaDoorWords
namespace Go.Proofs.YtaillinlbbhdkaaDoor
open Go.RowKit Go.Shelf
attribute [local go_sem] Oper.semAt_some
set_option linter.unusedVariables false
theorem u64Info : (Tryd.prog.info? 38).map (fun i => (i.zero, i.size, i.bytes)) = some (some (.int .u64 0), 1, 8) := by kernel_rfl
/-- the word of the bytes of a chunk -/
def wordAt (L : List UInt8) (x : Nat) : Nat := leVal ((L.drop (8 * x)).take 8)
/-- the words of bytes -/
def wordsOf (L : List UInt8) (m : Nat) : List Nat := (List.range m).map (wordAt L)
def preWords {m : Nat} (L : List UInt8) (pre : List (Upto m)) : List Nat := pre.map fun x => wordAt L x.1
theorem firstU_words (L : List UInt8) (m k : Nat) (h : k ≤ m) : preWords L (firstU m k h) = wordsOf L k := by
  induction k with
  | zero => rfl
  | succ k ih =>
    have e := ih (by omega)
    unfold preWords wordsOf at *
    rw [firstU, List.map_append, e, List.range_succ, List.map_append]; rfl
theorem chunk_part {w : World} {b o : Nat} {n cap : Nat} {L : List UInt8} (h : BytesAt w (.slice (some ⟨b, o, none⟩) n cap) L) (x : Nat) (hx : 8 * x + 8 ≤ L.length) : BytesAt w (.slice (some ⟨b, o + 8 * x, none⟩) 8 8) ((L.drop (8 * x)).take 8) := by
  obtain ⟨a', cap', hv, h1, h2, h3, -⟩ := h
  injection hv with e1 e2 e3
  subst e1 e3
  have hlen : ((L.drop (8 * x)).take 8).length = 8 := by rw [List.length_take, List.length_drop]; omega
  refine ⟨some ⟨b, o + 8 * x, none⟩, 8, by rw [hlen], by omega, by unfold maxLen; omega, Or.inr ⟨b, o + 8 * x, rfl, fun j hj => ?_⟩, fun h => by cases h⟩
  rw [Lib.byteCells_length, hlen] at hj
  rcases h3 with h3 | ⟨b', o', hb, hc⟩
  · have : L = [] := by simpa [Lib.byteCells] using h3
    subst this; simp at hx
  · injection hb with hb
    injection hb with e1 e2
    subst e1 e2
    have := hc (8 * x + j) (by rw [Lib.byteCells_length]; omega)
    rw [Nat.add_assoc, this]
    unfold Lib.byteCells
    rw [List.getElem?_map, List.getElem?_map, List.getElem?_take, if_pos hj, List.getElem?_drop]
theorem getN8 (l : List UInt8) (h : l.length = 8) : getN l 8 = leVal l := by
  have hc : clip8 8 = 8 := by decide
  unfold getN
  rw [hc, if_pos (by omega), List.take_of_length_le (by omega)]
set_option maxRecDepth 100000 in
set_option maxHeartbeats 2000000 in
theorem unwords_no (v : Value) (L : List UInt8) (w : World) (h : BytesAt w v L) (h8 : L.length % 8 ≠ 0) :
    Calls Tryd.prog 28 #[v] w fun e w' => e = .returned (.tuple #[.slice none 0 0, .int .i64 2]) ∧ w' = w := by
  obtain ⟨a, cap, rfl, h1, h2, -, -⟩ := h
  unfold maxLen at h2
  have q : ¬ (L.length : Int) % 8 = 0 := by omega
  clear h8
  go_enter Tryd.func28, Tryd.ntmps28
  go_wp2_with fail
  exact bodyPost_ret (v := .tuple #[.slice none 0 0, .int .i64 2]) (by simp [results, Tryd.results28, go_sem]) rfl ⟨rfl, rfl⟩
set_option maxRecDepth 100000 in
set_option maxHeartbeats 2000000 in
theorem unwords_yes (v : Value) (L : List UInt8) (m : Nat) (w : World) (h : BytesAt w v L) (h8 : L.length = 8 * m) (hm : m ≤ 100000) :
    Calls Tryd.prog 28 #[v] w fun e w' => ∃ u, e = .returned (.tuple #[u, .int .i64 0]) ∧ w'.ownsRow w.heap.size 38 1 u m (wordVals (wordsOf L m)) ∧ Below w.heap.size w w' := by
  obtain ⟨i0, hi, hz0, hz1, hz2⟩ := info_parts u64Info
  refine (callsIn_wide (n := 5)).1 ?_
  refine callsIn_of_wp_marks Tryd.func28 rfl trivial ?_ rfl
  simp only [Tryd.ntmps28, List.size_toArray, List.length_cons, List.length_nil, Nat.reduceAdd, Nat.reduceSub, Array.replicate_succ, Array.replicate_zero, List.push_toArray, List.append_toArray, List.nil_append, List.cons_append]
  have HH := h
  obtain ⟨a, cap, rfl, h1, h2, h3, h4⟩ := h
  rw [h8]
  rw [h8] at h1
  unfold maxLen at h2
  have q : ((8 * m : Nat) : Int) % 8 = 0 := by omega
  have q2 : (8 * (m : Int)) % 8 = 0 := by omega
  gi_wp2_with (refine ⟨trivial, ?_⟩; gi_at_call 55; refine (chunk_in Fence.wide _ trivial rfl _ _ _ _).mono ?_; rintro e w' ⟨rfl, rfl⟩)
  have bO := Boxed.new w 23 (.slice none 0 0)
  have bS := Boxed.new (w.alloc (.cells #[.slice none 0 0] 23)) 34 (.slice a (8 * m) cap)
  have bN := Boxed.new ((w.alloc (.cells #[.slice none 0 0] 23)).alloc (.cells #[.slice a (8 * m) cap] 34)) 3 (.int .i64 8)
  have bO := (bO.alloc (.cells #[.slice a (8 * m) cap] 34)).alloc (.cells #[.int .i64 8] 3)
  have bS := bS.alloc (.cells #[.int .i64 8] 3)
  have hB0 : Below w.heap.size w (((w.alloc (.cells #[.slice none 0 0] 23)).alloc (.cells #[.slice a (8 * m) cap] 34)).alloc (.cells #[.int .i64 8] 3)) := ((((Below.refl _ w).alloc (Nat.le_refl _) _).alloc (by simp) _).alloc (by simp; omega) _)
  have hs0 : (((w.alloc (.cells #[.slice none 0 0] 23)).alloc (.cells #[.slice a (8 * m) cap] 34)).alloc (.cells #[.int .i64 8] 3)).heap.size = w.heap.size + 3 := by simp
  rw [World.size_alloc] at bS
  rw [World.size_alloc, World.size_alloc] at bN
  obtain ⟨W0, hW0⟩ : ∃ W0, (((w.alloc (.cells #[.slice none 0 0] 23)).alloc (.cells #[.slice a (8 * m) cap] 34)).alloc (.cells #[.int .i64 8] 3)) = W0 := ⟨_, rfl⟩
  rw [hW0] at bO bS bN hB0 hs0 ⊢
  clear hW0
  obtain ⟨b, o, hseq, hpart⟩ : ∃ b o, SeqStopsK Fence.wide (5 - 1) Tryd.prog 68 #[.pointer (some ⟨w.heap.size + 1, 0, none⟩), .pointer (some ⟨w.heap.size + 1 + 1, 0, none⟩)] (fun x : Upto m => #[Value.slice (some ⟨b, o + 8 * x.1, none⟩) 8 8]) (KeepsBoxes (w.heap.size + 1) (w.heap.size + 1 + 1) (.slice a (8 * m) cap)) (fun ys => ys = firstU m m (Nat.le_refl _)) (fun _ => True) m W0 ∧
      ∀ W, Below w.heap.size w W → ∀ x : Upto m, BytesAt W (.slice (some ⟨b, o + 8 * x.1, none⟩) 8 8) ((L.drop (8 * x.1)).take 8) := by
    rcases h3 with h3 | ⟨b, o, rfl, h3⟩
    · have hL : L = [] := by simpa [Lib.byteCells] using h3
      subst hL
      have hm0 : m = 0 := by simp at h8; omega
      subst hm0
      refine ⟨0, 0, chunk_stops0 Fence.wide _ trivial rfl _ _ a cap W0 bS _ _, fun W _ x => absurd x.2 (by omega)⟩
    · refine ⟨b, o, chunk_stops Fence.wide _ trivial rfl (by omega) _ _ b o m cap (by omega) h1 W0 bS bN, fun W hW x => ?_⟩
      exact chunk_part (HH.later hW) x.1 (by have := x.2; omega)
  clear h3 h4 HH
  refine wpIn_rangeFunc_ownG rfl (by omega) (gf := 68) (lb := #[.pointer (some ⟨w.heap.size + 1, 0, none⟩), .pointer (some ⟨w.heap.size + 1 + 1, 0, none⟩)]) rfl trivial (enters_of Tryd.func68 (by kernel_rfl) rfl)
    hseq (fun h k g => k (h g)) ?hKb (Below.refl _ _) (fun _ => rfl)
    (fun pre W => ((∃ u, Boxed W w.heap.size 23 u ∧ W.ownsRow w.heap.size 38 1 u pre.length (wordVals (preWords L pre)) ∧ True) ∧ (Boxed W (w.heap.size + 1) 34 (.slice a (8 * m) cap) ∧ Boxed W (w.heap.size + 1 + 1) 3 (.int .i64 8))) ∧ Below w.heap.size w W)
    (fun _ _ _ => False)
    (OwnFrom.and (OwnFrom.and (Own.from (holdsRow_own w.heap.size w.heap.size 23 38 1 (fun pre : List (Upto m) => pre.length) (fun pre => wordVals (preWords L pre)) (fun _ _ => True)) _) (OwnFrom.and (Own.from (boxed_own _ _ (fun _ => _)) _) (Own.from (boxed_own _ _ (fun _ => _)) _))) (ownFrom_below (Nat.le_refl _) (by omega)))
    (fun _ _ _ _ _ hs _ _ => hs)
    ⟨⟨⟨_, bO, World.ownsRow_nil _ _ _ _, trivial⟩, bS, bN⟩, hB0⟩
    (fun x => { tmps := #[.slice a (8 * m) cap, undef, .slice none 0 0, .int .i64 0, .pointer (some ⟨w.heap.size, 0, none⟩), .slice (some ⟨b, o + 8 * x.1, none⟩) 8 8, undef, undef, .slice a (8 * m) cap, .int .i64 (8 * (m : Int)), .int .i64 0, .bool false, .slice a (8 * m) cap, .func (.func 68) #[] #[.pointer (some ⟨w.heap.size + 1, 0, none⟩), .pointer (some ⟨w.heap.size + 1 + 1, 0, none⟩)], .slice (some ⟨b, o + 8 * x.1, none⟩) 8 8, undef, undef, undef, undef, undef, undef, undef, undef, undef, undef], defers := [] }) ?assign ?body ?done ?stop
  case hKb =>
    rintro W l ob ob' hl - - - ⟨g1, g2⟩
    exact ⟨(World.putObj_heap_other (by omega)).trans g1, (World.putObj_heap_other (by omega)).trans g2⟩
  case assign =>
    intro l x W K hK
    gi_wp2
    exact hK
  case body =>
    rintro l pre x W ⟨⟨⟨u, hu, hrow, -⟩, hbs, hbn⟩, hB⟩ hlen
    have hby := hpart W hB x
    have hl8 : ((L.drop (8 * x.1)).take 8).length = 8 := by have := x.2; rw [List.length_take, List.length_drop]; omega
    have GT := get_any _ _ 8 W hby
    rw [getN8 _ hl8, hl8, show (if clip8 8 ≤ 8 then (0 : Int) else 4) = 0 from by decide, show leVal ((L.drop (8 * x.1)).take 8) = wordAt L x.1 from rfl] at GT
    have hcu := hu.cell
    clear hby hl8 hpart
    gi_wp2_with (first
      | (refine ⟨trivial, ?_⟩; gi_at_call 54; refine (CallsIn.inRound l (callsIn_wide.2 GT)).mono ?_; clear GT; rintro e w' ⟨rfl, rfl⟩)
      | (gi_at_builtin; refine wpListIn_append_own _ rfl _ _ 23 rfl w.heap.size 38 i0 (.int .u64 0) 1 8 Tryd.underlying23 hi hz0 hz1 hz2 rfl (by decide) _ _ _ rfl (hrow.alloc _) ⟨_, 0, none⟩ 1 1 [.int .u64 (wordAt L x.1 : Int)] rfl rfl (cell_one_new _ _ _) (by simp [Value.oneCell']) (by unfold maxLen; omega) (by omega) (by have := hB.size; simp; omega) ?_; intro v' w1 hown' hgrow _; obtain ⟨g', cap', rfl⟩ := ownsRow_succ hown'; obtain ⟨hv1, hv2, hr2, hk2, hb2⟩ := hu.appended (by decide) hrow hB.size (Nat.le_refl _) hown' hgrow; have hc1 := hv1.cell; have hf1 := hv1.frozen))
    have hbs2 := Boxed.other ((hbs.alloc _).kept hgrow (hbs.not_row (by decide) hrow)) (B' := w.heap.size) (by omega) (.slice (some ⟨g', 0, none⟩) (pre.length + 1) cap')
    have hbn2 := Boxed.other ((hbn.alloc _).kept hgrow (hbn.not_row (by decide) hrow)) (B' := w.heap.size) (by omega) (.slice (some ⟨g', 0, none⟩) (pre.length + 1) cap')
    refine ⟨hk2.from _, fun _ => ⟨hbs2, hbn2⟩, ⟨⟨⟨_, hv2, ?_, trivial⟩, hbs2, hbn2⟩, hB.trans hb2⟩⟩
    rw [List.length_append, List.length_singleton, show wordVals (preWords L (pre ++ [x])) = wordVals (preWords L pre) ++ [.int .u64 (wordAt L x.1 : Int)] by simp [wordVals, preWords]]
    exact hr2
  case done =>
    rintro D ys W hD rfl ⟨⟨⟨u, hu, hrow, -⟩, -⟩, hB⟩ hK
    have hcu := hu.cell
    rw [firstU_len, firstU_words] at hrow
    obtain ⟨ua, uc, rfl⟩ : ∃ ua uc, u = .slice ua m uc := by
      rcases hrow.2 with ⟨rfl, hm0⟩ | ⟨g, cp, cur, rfl, -⟩
      · exact ⟨none, 0, by rw [hm0]⟩
      · exact ⟨_, _, rfl⟩
    gi_wp2
    refine ⟨by simp, .inl ⟨_, _, rfl, run_takeDeferred hK, ?_⟩⟩
    refine ⟨.tuple #[.slice ua m uc, .int .i64 0], by simp [results, Tryd.results28, go_sem], _, rfl, ownsRow_putObj hrow _ hK rfl, hB.trans (belowK_b (w := w) (Nat.le_refl _) W D _ _ (by omega) hK rfl rfl)⟩
  case stop =>
    rintro D c pre W _ _ h _
    exact h.elim
end Go.Proofs.YtaillinlbbhdkaaDoor
