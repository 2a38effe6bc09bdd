/- Bytes as words: going through chunks of eight. Bytes as words. -/
import Derived.RangeFuncNested
import Derived.RangeFuncBound
import Derived.RangeFuncCalls
import Derived.RangeFuncLeaves
import Derived.RangeFuncBox
import Derived.Shelf.Abstract
import Derived.Shelf.RegionOpen
import Derived.WalkKit
import Derived.OwnWalkIn
import Derived.TacticsInMore
import Derived.LoopNIn
import Derived.LoopIn
import Derived.Maps.AppendAt
import Derived.Test.YtibopjjicfiimaaGreatDoorPackNum
import Derived.Test.YtibopjjicfiimaaGreatDoorRefHeap
namespace Go.Proofs.YtibopjjicfiimaaGreatDoor
open Go.RowKit Go.Shelf
attribute [local go_sem] Oper.semAt_some
set_option linter.unusedVariables false
/-- numbers below m -/
abbrev Upto (m : Nat) := { x : Nat // x < m }
def firstU (m : Nat) : (k : Nat) → k ≤ m → List (Upto m)
  | 0, _ => []
  | k + 1, h => firstU m k (by omega) ++ [⟨k, by omega⟩]
theorem firstU_len (m k : Nat) (h : k ≤ m) : (firstU m k h).length = k := by
  induction k with
  | zero => rfl
  | succ k ih => simp [firstU, ih]
set_option maxRecDepth 100000 in
set_option maxHeartbeats 2000000 in
/-- slices.Chunk's closure: chunks of eight, one after another -/
theorem chunk1_in (F : Fence) (n : Nat) (hf : F.fn 103) (hro : F.round = none) (hn : 1 ≤ n) (l Bs Bn b off m cap : Nat) (hm : m ≤ 1000000) (hcap : 8 * m ≤ cap) (J Jx : List (Upto m) → World → Prop)
    (hY : ∀ pre x W, J pre W → pre.length < m → YieldAt F (n - 1) Tryz.prog l #[.slice (some ⟨b, off + 8 * x.1, none⟩) 8 8] W fun e W' =>
      (e = .returned (.bool true) ∧ J (pre ++ [x]) W' ∧ ((Boxed W Bs 43 (.slice (some ⟨b, off, none⟩) (8 * m) cap) ∧ Boxed W Bn 3 (.int .i64 8)) → (Boxed W' Bs 43 (.slice (some ⟨b, off, none⟩) (8 * m) cap) ∧ Boxed W' Bn 3 (.int .i64 8)))) ∨ (e = .returned (.bool false) ∧ Jx (pre ++ [x]) W'))
    (W : World) (hBs : Boxed W Bs 43 (.slice (some ⟨b, off, none⟩) (8 * m) cap)) (hBn : Boxed W Bn 3 (.int .i64 8)) (hJd : ∀ pre W n, J pre W → J pre (W.drewN n)) (h0 : J [] W) :
    CallsIn F n Tryz.prog 103 #[.func (.yield l) #[] #[], .pointer (some ⟨Bs, 0, none⟩), .pointer (some ⟨Bn, 0, none⟩)] W fun e W' => (∃ v, e = .returned v) ∧
      ((∃ ys, ys = firstU m m (Nat.le_refl _) ∧ J ys W') ∨ (∃ pre, True ∧ Jx pre W')) := by
  refine callsIn_of_wp Tryz.func103 rfl hf ?_ hro
  simp only [Tryz.ntmps103, List.size_toArray, List.length_cons, List.length_nil, Nat.reduceAdd, Nat.reduceSub, Array.replicate_succ, Array.replicate_zero, List.push_toArray, List.append_toArray, List.nil_append, List.cons_append]
  gi_wp2
  gi_loopw [4, 5] (fun i _ wr => ∃ (k : Nat) (hk : k ≤ m), i = .int .i64 ((8 * k : Nat) : Int) ∧ J (firstU m k hk) wr ∧ Boxed wr Bs 43 (.slice (some ⟨b, off, none⟩) (8 * m) cap) ∧ Boxed wr Bn 3 (.int .i64 8))
    (fun i _ _ => 8 * m - (intOf i).toNat)
  case atStart => exact ⟨0, Nat.zero_le _, rfl, h0, hBs, hBn⟩
  case round =>
    obtain ⟨k, hk, rfl, hJs, hbs, hbn⟩ := hrel
    have hcs := hbs.cell
    have hcn := hbn.cell
    by_cases hlt : k < m
    · have hlt2 : 8 * k ≤ 8 * m := by omega
      have hlt3 : ((8 * k : Nat) : Int) = 8 * (k : Int) := by omega
      gi_wp2
      have hmin : min (8 : Int) ((8 * m - 8 * k : Nat) : Int) = 8 := by omega
      have hJd' := hJd _ wr 1 hJs
      have hbs' : Boxed wr.drew Bs 43 (.slice (some ⟨b, off, none⟩) (8 * m) cap) := hbs
      have hbn' : Boxed wr.drew Bn 3 (.int .i64 8) := hbn
      have hcs' := hbs'.cell
      have hcn' := hbn'.cell
      obtain ⟨fn, tmps, assign, body, hy, hR⟩ := hY _ ⟨k, hlt⟩ wr.drew hJd' (by rw [firstU_len]; exact hlt)
      dsimp only at hy
      gi_region
      all_goals (
        gi_wp2
        refine hR.mono ?_
        rintro e W3 (⟨rfl, hJ3, hk3⟩ | ⟨rfl, hJx3⟩)
        · have hk4 := hk3 ⟨hbs', hbn'⟩
          have hc3 := hk4.1.cell
          have hc4 := hk4.2.cell
          gi_wp2
          go_roundw
          case rel => exact ⟨k + 1, by omega, by congr 1, hJ3, hk4.1, hk4.2⟩
          case measure => simp [intOf]; omega
        · gi_wp2
          refine bodyPost_ret (results_none rfl _ _ _) rfl ?_
          exact ⟨⟨_, rfl⟩, .inr ⟨_, trivial, hJx3⟩⟩)
    · obtain rfl : k = m := by omega
      gi_wp2
      go_end0
      exact ⟨⟨_, rfl⟩, .inl ⟨_, rfl, hJs⟩⟩
set_option maxRecDepth 100000 in
set_option maxHeartbeats 1000000 in
/-- .. of no bytes: no round -/
theorem chunk1_nil_in (F : Fence) (n : Nat) (hf : F.fn 103) (hro : F.round = none) (l Bs Bn : Nat) (a : Option Addr) (cap : Nat) (J : List (Upto 0) → World → Prop) (W : World) (hBs : W.cell? ⟨Bs, 0, none⟩ = some (.slice a 0 cap)) (h0 : J [] W) :
    CallsIn F n Tryz.prog 103 #[.func (.yield l) #[] #[], .pointer (some ⟨Bs, 0, none⟩), .pointer (some ⟨Bn, 0, none⟩)] W fun e W' => (∃ v, e = .returned v) ∧ J [] W' := by
  refine callsIn_of_wp Tryz.func103 rfl hf ?_ hro
  simp only [Tryz.ntmps103, List.size_toArray, List.length_cons, List.length_nil, Nat.reduceAdd, Nat.reduceSub, Array.replicate_succ, Array.replicate_zero, List.push_toArray, List.append_toArray, List.nil_append, List.cons_append]
  gi_wp2
  gi_loopw [4] (fun i wr => i = .int .i64 0 ∧ J [] wr ∧ wr.cell? ⟨Bs, 0, none⟩ = some (.slice a 0 cap)) (fun _ _ => 0)
  case atStart => exact ⟨rfl, h0, hBs⟩
  case round =>
    obtain ⟨rfl, hJs, hBs⟩ := hrel
    gi_wp2
    go_end0
    exact ⟨⟨_, rfl⟩, hJs⟩
set_option maxRecDepth 100000 in
set_option maxHeartbeats 1000000 in
/-- slices.Chunk(s, 8): both are boxed; the function value captures the boxes -/
theorem chunk_in (F : Fence) (n : Nat) (hf : F.fn 86) (hro : F.round = none) (a : Option Addr) (len cap : Nat) (w : World) :
    CallsIn F n Tryz.prog 86 #[.slice a len cap, .int .i64 8] w fun e w' => e = .returned (.func (.func 103) #[] #[.pointer (some ⟨w.heap.size, 0, none⟩), .pointer (some ⟨w.heap.size + 1, 0, none⟩)]) ∧ w' = (w.alloc (.cells #[.slice a len cap] 43)).alloc (.cells #[.int .i64 8] 3) := by
  refine callsIn_of_wp Tryz.func86 rfl hf ?_ hro
  simp only [Tryz.ntmps86, List.size_toArray, List.length_cons, List.length_nil, Nat.reduceAdd, Nat.reduceSub, Array.replicate_succ, Array.replicate_zero, List.push_toArray, List.append_toArray, List.nil_append, List.cons_append]
  gi_wp2
  go_ret
  exact ⟨rfl, rfl⟩
/-- what a round of the caller's keeps: the iterator's two boxes -/
def KeepsBoxes (Bs Bn : Nat) (sv : Value) (W W' : World) : Prop := (Boxed W Bs 43 sv ∧ Boxed W Bn 3 (.int .i64 8)) → (Boxed W' Bs 43 sv ∧ Boxed W' Bn 3 (.int .i64 8))
/-- slices.Chunk(s, 8) hands back a value that gives all chunks, one after another -/
theorem chunk_stops (F : Fence) (n : Nat) (hf : F.fn 103) (hro : F.round = none) (hn : 1 ≤ n) (Bs Bn b off m cap : Nat) (hm : m ≤ 1000000) (hcap : 8 * m ≤ cap) (w : World) (hBs : Boxed w Bs 43 (.slice (some ⟨b, off, none⟩) (8 * m) cap)) (hBn : Boxed w Bn 3 (.int .i64 8)) :
    SeqStopsK F n Tryz.prog 103 #[.pointer (some ⟨Bs, 0, none⟩), .pointer (some ⟨Bn, 0, none⟩)] (fun x : Upto m => #[Value.slice (some ⟨b, off + 8 * x.1, none⟩) 8 8]) (KeepsBoxes Bs Bn (.slice (some ⟨b, off, none⟩) (8 * m) cap)) (fun ys => ys = firstU m m (Nat.le_refl _)) (fun _ => True) m w := fun l J Jx W hW hJ _ hY h0 => by
  have hbs : Boxed W Bs 43 (.slice (some ⟨b, off, none⟩) (8 * m) cap) := (hW.block _ hBs.lt).trans hBs
  have hbn : Boxed W Bn 3 (.int .i64 8) := (hW.block _ hBn.lt).trans hBn
  exact chunk1_in F n hf hro hn l Bs Bn b off m cap hm hcap J Jx hY W hbs hbn (fun pre W1 k h => hJ pre W1 (W1.drewN k) none h ⟨rfl, rfl, rfl, Nat.le_refl _, fun _ _ _ => rfl⟩ (fun r e => by cases e)) h0
theorem chunk_stops0 (F : Fence) (n : Nat) (hf : F.fn 103) (hro : F.round = none) (Bs Bn : Nat) (a : Option Addr) (cap : Nat) (w : World) (hBs : Boxed w Bs 43 (.slice a 0 cap)) (enc : Upto 0 → Array Value) (Kp : World → World → Prop) :
    SeqStopsK F n Tryz.prog 103 #[.pointer (some ⟨Bs, 0, none⟩), .pointer (some ⟨Bn, 0, none⟩)] enc Kp (fun ys => ys = []) (fun _ => True) 0 w := fun l J Jx W hW _ _ _ h0 => by
  have hbs : Boxed W Bs 43 (.slice a 0 cap) := (hW.block _ hBs.lt).trans hBs
  exact (chunk1_nil_in F n hf hro l Bs Bn a cap J W hbs.cell h0).mono fun e W' ⟨he, hj⟩ => ⟨he, .inl ⟨_, rfl, hj⟩⟩
end Go.Proofs.YtibopjjicfiimaaGreatDoor
namespace Go.Proofs.YtibopjjicfiimaaGreatDoor
open Go.RowKit Go.Shelf
attribute [local go_sem] Oper.semAt_some
set_option linter.unusedVariables false
theorem u64Info : (Tryz.prog.info? 30).map (fun i => (i.zero, i.size, i.bytes)) = some (some (.int .u64 0), 1, 8) := by kernel_rfl
/-- the word of the bytes of a chunk -/
def wordAt (L : List UInt8) (x : Nat) : Nat := leVal ((L.drop (8 * x)).take 8)
/-- the words of bytes -/
def wordsOf (L : List UInt8) (m : Nat) : List Nat := (List.range m).map (wordAt L)
def preWords {m : Nat} (L : List UInt8) (pre : List (Upto m)) : List Nat := pre.map fun x => wordAt L x.1
theorem firstU_words (L : List UInt8) (m k : Nat) (h : k ≤ m) : preWords L (firstU m k h) = wordsOf L k := by
  induction k with
  | zero => rfl
  | succ k ih =>
    have e := ih (by omega)
    unfold preWords wordsOf at *
    rw [firstU, List.map_append, e, List.range_succ, List.map_append]; rfl
theorem chunk_part {w : World} {b o : Nat} {n cap : Nat} {L : List UInt8} (h : BytesAt w (.slice (some ⟨b, o, none⟩) n cap) L) (x : Nat) (hx : 8 * x + 8 ≤ L.length) : BytesAt w (.slice (some ⟨b, o + 8 * x, none⟩) 8 8) ((L.drop (8 * x)).take 8) := by
  obtain ⟨a', cap', hv, h1, h2, h3, -⟩ := h
  injection hv with e1 e2 e3
  subst e1 e3
  have hlen : ((L.drop (8 * x)).take 8).length = 8 := by rw [List.length_take, List.length_drop]; omega
  refine ⟨some ⟨b, o + 8 * x, none⟩, 8, by rw [hlen], by omega, by unfold maxLen; omega, Or.inr ⟨b, o + 8 * x, rfl, fun j hj => ?_⟩, fun h => by cases h⟩
  rw [Lib.byteCells_length, hlen] at hj
  rcases h3 with h3 | ⟨b', o', hb, hc⟩
  · have : L = [] := by simpa [Lib.byteCells] using h3
    subst this; simp at hx
  · injection hb with hb
    injection hb with e1 e2
    subst e1 e2
    have := hc (8 * x + j) (by rw [Lib.byteCells_length]; omega)
    rw [Nat.add_assoc, this]
    unfold Lib.byteCells
    rw [List.getElem?_map, List.getElem?_map, List.getElem?_take, if_pos hj, List.getElem?_drop]
theorem getN8 (l : List UInt8) (h : l.length = 8) : getN l 8 = leVal l := by
  have hc : clip8 8 = 8 := by decide
  unfold getN
  rw [hc, if_pos (by omega), List.take_of_length_le (by omega)]
set_option maxRecDepth 100000 in
set_option maxHeartbeats 2000000 in
theorem unwords_no (v : Value) (L : List UInt8) (w : World) (h : BytesAt w v L) (h8 : L.length % 8 ≠ 0) :
    Calls Tryz.prog 45 #[v] w fun e w' => e = .returned (.tuple #[.slice none 0 0, .int .i64 2]) ∧ w' = w := by
  obtain ⟨a, cap, rfl, h1, h2, -, -⟩ := h
  unfold maxLen at h2
  have q : ¬ (L.length : Int) % 8 = 0 := by omega
  clear h8
  go_enter Tryz.func45, Tryz.ntmps45
  go_wp2_with fail
  exact bodyPost_ret (v := .tuple #[.slice none 0 0, .int .i64 2]) (by simp [results, Tryz.results45, go_sem]) rfl ⟨rfl, rfl⟩
set_option maxRecDepth 100000 in
set_option maxHeartbeats 2000000 in
theorem unwords_yes (v : Value) (L : List UInt8) (m : Nat) (w : World) (h : BytesAt w v L) (h8 : L.length = 8 * m) (hm : m ≤ 200000) :
    Calls Tryz.prog 45 #[v] w fun e w' => ∃ u, e = .returned (.tuple #[u, .int .i64 0]) ∧ w'.ownsRow w.heap.size 30 1 u m (wordVals (wordsOf L m)) ∧ Below w.heap.size w w' := by
  obtain ⟨i0, hi, hz0, hz1, hz2⟩ := info_parts u64Info
  refine (callsIn_wide (n := 5)).1 ?_
  refine callsIn_of_wp_marks Tryz.func45 rfl trivial ?_ rfl
  simp only [Tryz.ntmps45, List.size_toArray, List.length_cons, List.length_nil, Nat.reduceAdd, Nat.reduceSub, Array.replicate_succ, Array.replicate_zero, List.push_toArray, List.append_toArray, List.nil_append, List.cons_append]
  have HH := h
  obtain ⟨a, cap, rfl, h1, h2, h3, h4⟩ := h
  rw [h8]
  rw [h8] at h1
  unfold maxLen at h2
  have q : ((8 * m : Nat) : Int) % 8 = 0 := by omega
  have q2 : (8 * (m : Int)) % 8 = 0 := by omega
  gi_wp2_with (refine ⟨trivial, ?_⟩; gi_at_call 86; refine (chunk_in Fence.wide _ trivial rfl _ _ _ _).mono ?_; rintro e w' ⟨rfl, rfl⟩)
  have bO := Boxed.new w 56 (.slice none 0 0)
  have bS := Boxed.new (w.alloc (.cells #[.slice none 0 0] 56)) 43 (.slice a (8 * m) cap)
  have bN := Boxed.new ((w.alloc (.cells #[.slice none 0 0] 56)).alloc (.cells #[.slice a (8 * m) cap] 43)) 3 (.int .i64 8)
  have bO := (bO.alloc (.cells #[.slice a (8 * m) cap] 43)).alloc (.cells #[.int .i64 8] 3)
  have bS := bS.alloc (.cells #[.int .i64 8] 3)
  have hB0 : Below w.heap.size w (((w.alloc (.cells #[.slice none 0 0] 56)).alloc (.cells #[.slice a (8 * m) cap] 43)).alloc (.cells #[.int .i64 8] 3)) := ((((Below.refl _ w).alloc (Nat.le_refl _) _).alloc (by simp) _).alloc (by simp; omega) _)
  have hs0 : (((w.alloc (.cells #[.slice none 0 0] 56)).alloc (.cells #[.slice a (8 * m) cap] 43)).alloc (.cells #[.int .i64 8] 3)).heap.size = w.heap.size + 3 := by simp
  rw [World.size_alloc] at bS
  rw [World.size_alloc, World.size_alloc] at bN
  obtain ⟨W0, hW0⟩ : ∃ W0, (((w.alloc (.cells #[.slice none 0 0] 56)).alloc (.cells #[.slice a (8 * m) cap] 43)).alloc (.cells #[.int .i64 8] 3)) = W0 := ⟨_, rfl⟩
  rw [hW0] at bO bS bN hB0 hs0 ⊢
  clear hW0
  obtain ⟨b, o, hseq, hpart⟩ : ∃ b o, SeqStopsK Fence.wide (5 - 1) Tryz.prog 103 #[.pointer (some ⟨w.heap.size + 1, 0, none⟩), .pointer (some ⟨w.heap.size + 1 + 1, 0, none⟩)] (fun x : Upto m => #[Value.slice (some ⟨b, o + 8 * x.1, none⟩) 8 8]) (KeepsBoxes (w.heap.size + 1) (w.heap.size + 1 + 1) (.slice a (8 * m) cap)) (fun ys => ys = firstU m m (Nat.le_refl _)) (fun _ => True) m W0 ∧
      ∀ W, Below w.heap.size w W → ∀ x : Upto m, BytesAt W (.slice (some ⟨b, o + 8 * x.1, none⟩) 8 8) ((L.drop (8 * x.1)).take 8) := by
    rcases h3 with h3 | ⟨b, o, rfl, h3⟩
    · have hL : L = [] := by simpa [Lib.byteCells] using h3
      subst hL
      have hm0 : m = 0 := by simp at h8; omega
      subst hm0
      refine ⟨0, 0, chunk_stops0 Fence.wide _ trivial rfl _ _ a cap W0 bS _ _, fun W _ x => absurd x.2 (by omega)⟩
    · refine ⟨b, o, chunk_stops Fence.wide _ trivial rfl (by omega) _ _ b o m cap (by omega) h1 W0 bS bN, fun W hW x => ?_⟩
      exact chunk_part (HH.later hW) x.1 (by have := x.2; omega)
  clear h3 h4 HH
  refine wpIn_rangeFunc_ownG rfl (by omega) (gf := 103) (lb := #[.pointer (some ⟨w.heap.size + 1, 0, none⟩), .pointer (some ⟨w.heap.size + 1 + 1, 0, none⟩)]) rfl trivial (enters_of Tryz.func103 (by kernel_rfl) rfl)
    hseq (fun h k g => k (h g)) ?hKb (Below.refl _ _) (fun _ => rfl)
    (fun pre W => ((∃ u, Boxed W w.heap.size 56 u ∧ W.ownsRow w.heap.size 30 1 u pre.length (wordVals (preWords L pre)) ∧ True) ∧ (Boxed W (w.heap.size + 1) 43 (.slice a (8 * m) cap) ∧ Boxed W (w.heap.size + 1 + 1) 3 (.int .i64 8))) ∧ Below w.heap.size w W)
    (fun _ _ _ => False)
    (OwnFrom.and (OwnFrom.and (Own.from (holdsRow_own w.heap.size w.heap.size 56 30 1 (fun pre : List (Upto m) => pre.length) (fun pre => wordVals (preWords L pre)) (fun _ _ => True)) _) (OwnFrom.and (Own.from (boxed_own _ _ (fun _ => _)) _) (Own.from (boxed_own _ _ (fun _ => _)) _))) (ownFrom_below (Nat.le_refl _) (by omega)))
    (fun _ _ _ _ _ hs _ _ => hs)
    ⟨⟨⟨_, bO, World.ownsRow_nil _ _ _ _, trivial⟩, bS, bN⟩, hB0⟩
    (fun x => { tmps := #[.slice a (8 * m) cap, undef, .slice none 0 0, .int .i64 0, .pointer (some ⟨w.heap.size, 0, none⟩), .slice (some ⟨b, o + 8 * x.1, none⟩) 8 8, undef, undef, .slice a (8 * m) cap, .int .i64 (8 * (m : Int)), .int .i64 0, .bool false, .slice a (8 * m) cap, .func (.func 103) #[] #[.pointer (some ⟨w.heap.size + 1, 0, none⟩), .pointer (some ⟨w.heap.size + 1 + 1, 0, none⟩)], .slice (some ⟨b, o + 8 * x.1, none⟩) 8 8, undef, undef, undef, undef, undef, undef, undef, undef, undef, undef], defers := [] }) ?assign ?body ?done ?stop
  case hKb =>
    rintro W l ob ob' hl - - - ⟨g1, g2⟩
    exact ⟨(World.putObj_heap_other (by omega)).trans g1, (World.putObj_heap_other (by omega)).trans g2⟩
  case assign =>
    intro l x W K hK
    gi_wp2
    exact hK
  case body =>
    rintro l pre x W ⟨⟨⟨u, hu, hrow, -⟩, hbs, hbn⟩, hB⟩ hlen
    have hby := hpart W hB x
    have hl8 : ((L.drop (8 * x.1)).take 8).length = 8 := by have := x.2; rw [List.length_take, List.length_drop]; omega
    have GT := get_any _ _ 8 W hby
    rw [getN8 _ hl8, hl8, show (if clip8 8 ≤ 8 then (0 : Int) else 4) = 0 from by decide, show leVal ((L.drop (8 * x.1)).take 8) = wordAt L x.1 from rfl] at GT
    have hcu := hu.cell
    clear hby hl8 hpart
    gi_wp2_with (first
      | (refine ⟨trivial, ?_⟩; gi_at_call 85; refine (CallsIn.inRound l (callsIn_wide.2 GT)).mono ?_; clear GT; rintro e w' ⟨rfl, rfl⟩)
      | (gi_at_builtin; refine wpListIn_append_own _ rfl _ _ 56 rfl w.heap.size 30 i0 (.int .u64 0) 1 8 Tryz.underlying56 hi hz0 hz1 hz2 rfl (by decide) _ _ _ rfl (hrow.alloc _) ⟨_, 0, none⟩ 1 1 [.int .u64 (wordAt L x.1 : Int)] rfl rfl (cell_one_new _ _ _) (by simp [Value.oneCell']) (by unfold maxLen; omega) (by omega) (by have := hB.size; simp; omega) ?_; intro v' w1 hown' hgrow _; obtain ⟨g', cap', rfl⟩ := ownsRow_succ hown'; obtain ⟨hv1, hv2, hr2, hk2, hb2⟩ := hu.appended (by decide) hrow hB.size (Nat.le_refl _) hown' hgrow; have hc1 := hv1.cell; have hf1 := hv1.frozen))
    have hbs2 := Boxed.other ((hbs.alloc _).kept hgrow (hbs.not_row (by decide) hrow)) (B' := w.heap.size) (by omega) (.slice (some ⟨g', 0, none⟩) (pre.length + 1) cap')
    have hbn2 := Boxed.other ((hbn.alloc _).kept hgrow (hbn.not_row (by decide) hrow)) (B' := w.heap.size) (by omega) (.slice (some ⟨g', 0, none⟩) (pre.length + 1) cap')
    refine ⟨hk2.from _, fun _ => ⟨hbs2, hbn2⟩, ⟨⟨⟨_, hv2, ?_, trivial⟩, hbs2, hbn2⟩, hB.trans hb2⟩⟩
    rw [List.length_append, List.length_singleton, show wordVals (preWords L (pre ++ [x])) = wordVals (preWords L pre) ++ [.int .u64 (wordAt L x.1 : Int)] by simp [wordVals, preWords]]
    exact hr2
  case done =>
    rintro D ys W hD rfl ⟨⟨⟨u, hu, hrow, -⟩, -⟩, hB⟩ hK
    have hcu := hu.cell
    rw [firstU_len, firstU_words] at hrow
    obtain ⟨ua, uc, rfl⟩ : ∃ ua uc, u = .slice ua m uc := by
      rcases hrow.2 with ⟨rfl, hm0⟩ | ⟨g, cp, cur, rfl, -⟩
      · exact ⟨none, 0, by rw [hm0]⟩
      · exact ⟨_, _, rfl⟩
    gi_wp2
    refine ⟨by simp, .inl ⟨_, _, rfl, run_takeDeferred hK, ?_⟩⟩
    refine ⟨.tuple #[.slice ua m uc, .int .i64 0], by simp [results, Tryz.results45, go_sem], _, rfl, ownsRow_putObj hrow _ hK rfl, hB.trans (belowK_b (w := w) (Nat.le_refl _) W D _ _ (by omega) hK rfl rfl)⟩
  case stop =>
    rintro D c pre W _ _ h _
    exact h.elim
end Go.Proofs.YtibopjjicfiimaaGreatDoor
