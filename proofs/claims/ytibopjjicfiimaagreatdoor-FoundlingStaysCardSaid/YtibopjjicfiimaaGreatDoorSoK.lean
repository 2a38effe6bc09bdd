/- The third rule: the root's words. The fourth rule: the globals, by their names. The fourth rule: the globals, by their names: the plain part, and what a round keeps. The fourth rule: the walk. The fifth and the seventh rule: each class's class is its own; the symbols are all there are. The seventh rule: the symbols are all there are. -/
import Derived.Test.YtibopjjicfiimaaGreatDoorSoE
import Derived.Test.YtibopjjicfiimaaGreatDoorSoM
import Derived.Laws.CopyOwn
import Derived.Deep.RegionHeld3
import Derived.Test.YtibopjjicfiimaaGreatDoorLater
namespace Go.Proofs.YtibopjjicfiimaaGreatDoor
open Go.RowKit
set_option linter.unusedVariables false
/-- the root's words -/
def spX (S : Nat → Bool) (M : Nat → Nat) (root : Nat) : Nat → Nat := fun i => getX S M root i
def rootB (S : Nat → Bool) (M : Nat → Nat) (root : Nat) : Bool :=
  decide ((wrdX S M root).length = 24) && decide (kndX S M root = 1) && isB S M (spX S M root) (spX S M root 3) 1 14 && isB S M (spX S M root) (spX S M root 4) 1 14 && isB S M (spX S M root) (spX S M root 21) 1 14 &&
  isB S M (spX S M root) root 1 14 && ofB S M (spX S M root) (spX S M root 0) 8 && ofB S M (spX S M root) (spX S M root 1) 9 && ofB S M (spX S M root) (spX S M root 2) 10
theorem rootB_def (S : Nat → Bool) (M : Nat → Nat) (root : Nat) : rootB S M root = (decide ((wrdX S M root).length = 24) && decide (kndX S M root = 1) && isB S M (spX S M root) (spX S M root 3) 1 14 && isB S M (spX S M root) (spX S M root 4) 1 14 && isB S M (spX S M root) (spX S M root 21) 1 14 &&
  isB S M (spX S M root) root 1 14 && ofB S M (spX S M root) (spX S M root 0) 8 && ofB S M (spX S M root) (spX S M root 1) 9 && ofB S M (spX S M root) (spX S M root 2) 10) := rfl
section
variable {w : World} {B h N free L root : Nat} {S : Nat → Bool} {M : Nat → Nat} {sp : Nat → Nat} {cv : Value}
theorem getX_lt (k : Lk w B h N free S M L root sp cv) (x i : Nat) : getX S M x i < 18446744073709551616 := by
  unfold getX
  rw [List.getD_eq_getElem?_getD]
  cases hg : (wrdX S M x)[i]? with
  | none => show (0 : Nat) < _; omega
  | some y => exact wrdX_lt k (List.mem_of_getElem? hg)
/-- the block behind the copy -/
theorem snd_copy {w3 : World} {ws : List Nat} {cur : Array Value} (h1 : w3.heap[L]? = some (.cells cur 77 (0, 0))) (h2 : cur.size = 27) (h3 : cur[0]? = some (.pointer (some ⟨h, 0, none⟩))) (h4 : cur[1]? = some (.int .u64 (root : Int))) (h6 : cur[26]? = some cv) (hw : ws.length = 24) :
    SndAt (w3.setRow L (cur.toList.take 2 ++ wordVals ws ++ cur.toList.drop (2 + (wordVals ws).length)).toArray) L h root (fun i => ws.getD i 0) cv := by
  have hwl := wordVals_length ws
  have hl2 : (cur.toList.take 2).length = 2 := by simp; omega
  refine ⟨_, setRow_heap w3 L _ _ _ _ h1, ?_, ?_, ?_, fun i hi => ?_, ?_⟩
  · simp [hwl, hw]; omega
  · rw [List.getElem?_toArray, List.append_assoc, List.getElem?_append_left (by omega), List.getElem?_take_of_lt (by omega), Array.getElem?_toList]; exact h3
  · rw [List.getElem?_toArray, List.append_assoc, List.getElem?_append_left (by omega), List.getElem?_take_of_lt (by omega), Array.getElem?_toList]; exact h4
  · rw [List.getElem?_toArray, List.append_assoc, List.getElem?_append_right (by omega), List.getElem?_append_left (by omega), hl2, show 2 + i - 2 = i by omega, wordVals, List.getElem?_map, List.getElem?_eq_getElem (by omega)]
    show some (Value.int .u64 ((ws[i]'(by omega) : Nat) : Int)) = some (Value.int .u64 ((ws.getD i 0 : Nat) : Int))
    rw [List.getD_eq_getElem?_getD, List.getElem?_eq_getElem (by omega)]
    rfl
  · rw [List.getElem?_toArray, List.getElem?_append_right (by simp [hwl, hw]; omega)]
    simp only [List.length_append, hl2, hwl, hw]
    rw [List.getElem?_drop, Array.getElem?_toList]
    exact h6
theorem grown_trans {a b c : World} {row : Option Nat} (h : a.grownBy b row) (k : b.grownBy c row) : a.grownBy c row :=
  ⟨k.os.trans h.os, k.tape.trans h.tape, k.output.trans h.output, Nat.le_trans h.size k.size, fun q hq hne => (k.block q (Nat.lt_of_lt_of_le hq h.size) hne).trans (h.block q hq hne)⟩
theorem isB_true {x c : Nat} {q : Int} : isB S M sp x q c = true → PtrIn S x = true ∧ kndX S M x = q ∧ clsX S M x = sp c := by
  unfold isB
  simp only [Bool.and_eq_true, decide_eq_true_eq]
  exact fun hh => ⟨hh.1.1, hh.1.2, hh.2⟩
set_option maxRecDepth 100000 in
set_option maxHeartbeats 3200000 in
theorem rooted_any (k : Lk w B h N free S M L root sp cv) :
    Calls Tryz.prog 23 #[.pointer (some ⟨L, 0, none⟩)] w fun e w' => e = .returned (.bool (rootB S M root)) ∧ w.grownBy w' (some L) ∧ (rootB S M root = true → Lk w' B h N free S M L root (spX S M root) cv) := by
  have WD := Lib.hid (wrds_any root k k.hr)
  have y0 := k.at_.heap
  have y1 := k.at_.rt
  have K := Lib.hid k
  have hLl := k.at_.lt
  have HLTs := Lib.hid (show ∀ i, i < 24 → spX S M root i < 18446744073709551616 from fun i _ => getX_lt k root i)
  have GX := Lib.hid (show (fun i => (wrdX S M root).getD i 0) = spX S M root from rfl)
  have hws := fun y (hy : y ∈ wrdX S M root) => wrdX_lt k hy
  have HWS := Lib.hid hws
  have HDEF := Lib.hid (rootB_def S M root)
  clear k hws
  go_enter Tryz.func23, Tryz.ntmps23
  go_wp2_with fail
  refine WD.out.mono ?_
  rintro e w1 ⟨v, rfl, hwa, -, hg1⟩
  have HG1 := Lib.hid hg1; have HWA := Lib.hid hwa
  obtain ⟨va, vc, rfl, -⟩ := hwa.get
  have hs1 := hg1.size
  clear hwa WD y0 y1
  have k1 := K.out.later hg1
  have y0 := k1.at_.heap
  have y1 := k1.at_.rt
  have hLl1 := k1.at_.lt
  have HD := Lib.hid (fun W (hW : Below w1.heap.size w1 W) => head_any B h N free root S M W (k1.H.later hW) k1.c k1.hr)
  clear k1 hg1
  obtain ⟨ws, hwse⟩ : ∃ ws, wrdX S M root = ws := ⟨_, rfl⟩
  rw [hwse] at HWA GX HWS HDEF ⊢
  clear hwse
  obtain ⟨vk, hvk⟩ : ∃ vk, kndX S M root = vk := ⟨_, rfl⟩
  rw [hvk] at HD HDEF
  clear hvk
  generalize clsX S M root = vc0 at *
  generalize sizX S M root = vs at *
  generalize hH (infX S M root) = vh at *
  generalize mrkX S M root = vm at *
  generalize (if PtrIn S root = true then (0 : Int) else 13) = ve at *
  have FX := Lib.hid (fun W (hW : Below w1.heap.size w1 W) => show W.cell? ⟨L, 0, none⟩ = some (.pointer (some ⟨h, 0, none⟩)) ∧ W.cell? ⟨L, 1, none⟩ = some (.int .u64 (root : Int)) from ⟨(hW.cell (p := ⟨L, 0, none⟩) hLl1).trans y0, (hW.cell (p := ⟨L, 1, none⟩) hLl1).trans y1⟩)
  have HD2 := Lib.hid (fun W (hW : Below w1.heap.size w1 W) => (HD.out W hW).mono fun e w' hh => show e = _ ∧ Below w1.heap.size w1 w' ∧ (∀ b, b < W.heap.size → w'.heap[b]? = W.heap[b]?) from ⟨hh.1, hW.trans (hh.2.mono hW.size), hh.2.block⟩)
  have z4 : Below w1.heap.size w1 w1 := Below.refl _ _
  have hn1 := World.new_ne w1 ⟨L, 0, none⟩ y0
  have hn2 := World.new_ne w1 ⟨L, 1, none⟩ y1
  clear HD
  go_upto_region 2 with fail
  go_region_held3 (fun w' => w'.cell? ⟨L, 0, none⟩ = some (.pointer (some ⟨h, 0, none⟩)) ∧ w'.cell? ⟨L, 1, none⟩ = some (.int .u64 (root : Int)))
    (first | (with_reducible exact ⟨y0, y1⟩) | (with_reducible exact r0) | go_keep)
    (first | (go_at_call 56; refine (HD2.out _ (by first | exact z4.drew | exact (z4.alloc (Nat.le_refl _) _).drew | repeat (first | with_reducible exact Below.refl _ _ | ((with_reducible refine Below.setCell ?_ ?_ _); rotate_left; focus (first | (simp; done) | (simp; omega) | omega)) | ((with_reducible refine Below.alloc ?_ ?_ _); rotate_left; focus (first | (simp; done) | (simp; omega) | omega)) | (with_reducible refine Below.drew ?_) | ((with_reducible refine Below.trans ?_ (Below.mono z4 ?_)); rotate_left; focus (first | (simp; done) | (simp; omega) | omega))))).mono ?_; rintro e w5 ⟨rfl, hg5, hbl5⟩; have r0 := FX.out w5 hg5; obtain ⟨r00, r01⟩ := id r0; have hLl5 : L < w5.heap.size := Nat.lt_of_lt_of_le hLl1 hg5.size; have hn5 := World.new_ne w5 ⟨L, 0, none⟩ r00; have hn6 := World.new_ne w5 ⟨L, 1, none⟩ r01; try (have q5 : w5.heap[w1.heap.size]? = some (.cells #[.int .u64 0, .int .i64 0, .int .i64 0, .int .u32 0, .bool false] 119 (0, 0)) := (hbl5 w1.heap.size (by simp)).trans (by first | exact heap_alloc_new w1.drew _ | exact heap_alloc_new w1 _); have q50 : w5.cell? ⟨w1.heap.size, 0, none⟩ = _ := cellO q5 0; have q51 : w5.cell? ⟨w1.heap.size, 1, none⟩ = _ := cellO q5 1; have q52 : w5.cell? ⟨w1.heap.size, 2, none⟩ = _ := cellO q5 2; have q53 : w5.cell? ⟨w1.heap.size, 3, none⟩ = _ := cellO q5 3; have q54 : w5.cell? ⟨w1.heap.size, 4, none⟩ = _ := cellO q5 4; have qf : ∀ j, w5.frozen? ⟨w1.heap.size, j, none⟩ = false := (fun j => by unfold World.frozen?; rw [q5]; cases j <;> rfl); simp at q50 q51 q52 q53 q54)))
  have q6 := heap_alloc_new w5 (.cells #[.int .u64 (vc0 : Int), .int .i64 vk, .int .i64 vs, .int .u32 vh, .bool vm] 119)
  have B6 : Below w1.heap.size w1 (w5.alloc (.cells #[.int .u64 (vc0 : Int), .int .i64 vk, .int .i64 vs, .int .u32 vh, .bool vm] 119)) := hg5.alloc hg5.size _
  generalize w5.alloc (.cells #[.int .u64 (vc0 : Int), .int .i64 vk, .int .i64 vs, .int .u32 vh, .bool vm] 119) = w6 at q6 B6 ⊢
  have c6 : w6.cell? ⟨w5.heap.size, 1, none⟩ = some (.int .i64 vk) := cellO q6 1
  generalize w5.heap.size = tb at c6 q6 ⊢
  clear q6 hbl5 hn1 hn2 hn5 hn6 r00 r01 hLl5 hg5 r0 z4 y0 y1
  rotate_left
  have q6 : (((((w5.setCell ⟨w1.heap.size, 0, none⟩ (.int .u64 (vc0 : Int))).setCell ⟨w1.heap.size, 1, none⟩ (.int .i64 vk)).setCell ⟨w1.heap.size, 2, none⟩ (.int .i64 vs)).setCell ⟨w1.heap.size, 3, none⟩ (.int .u32 vh)).setCell ⟨w1.heap.size, 4, none⟩ (.bool vm)).heap[w1.heap.size]? = some (.cells #[.int .u64 (vc0 : Int), .int .i64 vk, .int .i64 vs, .int .u32 vh, .bool vm] 119 (0, 0)) :=
    heap_setCell_same _ _ _ _ _ _ (heap_setCell_same _ _ _ _ _ _ (heap_setCell_same _ _ _ _ _ _ (heap_setCell_same _ _ _ _ _ _ (heap_setCell_same _ _ _ _ _ _ q5))))
  have B6 : Below w1.heap.size w1 (((((w5.setCell ⟨w1.heap.size, 0, none⟩ (.int .u64 (vc0 : Int))).setCell ⟨w1.heap.size, 1, none⟩ (.int .i64 vk)).setCell ⟨w1.heap.size, 2, none⟩ (.int .i64 vs)).setCell ⟨w1.heap.size, 3, none⟩ (.int .u32 vh)).setCell ⟨w1.heap.size, 4, none⟩ (.bool vm)) :=
    ((((hg5.setCell (p := ⟨w1.heap.size, 0, none⟩) (Nat.le_refl _) _).setCell (p := ⟨w1.heap.size, 1, none⟩) (Nat.le_refl _) _).setCell (p := ⟨w1.heap.size, 2, none⟩) (Nat.le_refl _) _).setCell (p := ⟨w1.heap.size, 3, none⟩) (Nat.le_refl _) _).setCell (p := ⟨w1.heap.size, 4, none⟩) (Nat.le_refl _) _
  generalize ((((w5.setCell ⟨w1.heap.size, 0, none⟩ (.int .u64 (vc0 : Int))).setCell ⟨w1.heap.size, 1, none⟩ (.int .i64 vk)).setCell ⟨w1.heap.size, 2, none⟩ (.int .i64 vs)).setCell ⟨w1.heap.size, 3, none⟩ (.int .u32 vh)).setCell ⟨w1.heap.size, 4, none⟩ (.bool vm) = w6 at q6 B6 ⊢
  have c6 : w6.cell? ⟨w1.heap.size, 1, none⟩ = some (.int .i64 vk) := cellO q6 1
  clear q6 q5 q50 q51 q52 q53 q54 qf hbl5 hn1 hn2 hn5 hn6 r00 r01 hLl5 hg5 r0 z4 y0 y1
  obtain ⟨tb, htb⟩ : ∃ tb, w1.heap.size = tb := ⟨_, rfl⟩
  rw [htb] at c6 ⊢
  clear htb
  rotate_left
  all_goals clear HD2 FX
  all_goals have HB6 := Lib.hid (HG1.out.trans (B6.mono HG1.out.size))
  all_goals have HW6 := Lib.hid (HWA.out.later B6)
  all_goals clear B6 HWA
  all_goals (
    obtain ⟨n, hn⟩ : ∃ n, ws.length = n := ⟨_, rfl⟩
    rw [hn] at HW6 HDEF ⊢
    have HN := Lib.hid hn
    clear hn
    by_cases h24 : n = 24
    · subst h24
      by_cases hk : vk = 1
      · subst hk
        have K6 := K.out.later HB6.out
        have HK6 := Lib.hid K6
        obtain ⟨cur, e1, e2, e3, e4, e5, e6⟩ := K6.at_
        have hw6 := HW6.out
        rw [← HN.out] at hw6
        obtain ⟨va', vc', hue, -, -, hcu⟩ := hw6.get
        simp only [Value.slice.injEq, true_and] at hue
        obtain ⟨rfl, rfl⟩ := hue
        obtain ⟨xb, xo, rfl, -, -⟩ := hcu 0 (by rw [HN.out]; omega)
        have hwl := wordVals_length ws
        rw [HN.out] at hwl
        have hra : RowAt w6 (some ⟨xb, xo, none⟩) (wordVals ws) := by
          obtain ⟨a, c, he, -, -, hr, -⟩ := hw6
          simp only [Value.slice.injEq] at he
          obtain ⟨rfl, -, -⟩ := he
          exact hr
        have hcp : ∀ ty, (Builtin.copy_ #[40, 40] ty #[.slice (some ⟨L, 2, none⟩) 24 24, .slice (some ⟨xb, xo, none⟩) 24 vc]).run Tryz.prog w6 = .ok (goInt (wordVals ws).length) (w6.setRow L (cur.toList.take 2 ++ wordVals ws ++ cur.toList.drop (2 + (wordVals ws).length)).toArray) := fun ty =>
          run_copy_row Tryz.prog w6 _ _ ty 39 L 2 24 24 ⟨xb, xo, none⟩ 24 vc cur 77 (wordVals ws) Tryz.underlying40 (by kernel_rfl) e1 (by rw [hwl]; rfl) (RowAt.add hra) (by rw [hwl, e2]; omega) (by intro u hu; simp [wordVals] at hu; obtain ⟨x, -, rfl⟩ := hu; rfl)
        have SN := snd_copy (root := root) (h := h) (cv := cv) e1 e2 e3 e4 e6 HN.out
        rw [GX.out] at SN
        obtain ⟨X, hX⟩ : ∃ X, X = (cur.toList.take 2 ++ wordVals ws ++ cur.toList.drop (2 + (wordVals ws).length)).toArray := ⟨_, rfl⟩
        rw [← hX] at SN
        rw [← hX, hwl] at hcp
        have hgr : w6.grownBy (w6.setRow L X) (some L) := ⟨rfl, rfl, rfl, by simp [World.setRow], fun q _ hne => setRow_other _ _ _ _ (fun e => hne (by rw [e]))⟩
        obtain ⟨w7, hw7⟩ : ∃ w7, w7 = w6.setRow L X := ⟨_, rfl⟩
        rw [← hw7] at SN hgr hcp
        have HGR := Lib.hid (grown_trans (grown_below2 HB6.out) hgr)
        have K7 := Lib.hid (HK6.out.turn hgr SN HLTs.out)
        clear hX hw7 SN hgr hwl hra hcu hw6 e1 e2 e3 e4 e5 e6 K6 HK6
        go_upto_region 5 with fail
        go_upto_region 6 with fail
        clear hcp c6
        obtain ⟨w8, hw8⟩ : ∃ w8, w8 = w7.alloc (.cells #[.int .i64 3, .int .i64 4, .int .i64 21] 3) := ⟨_, rfl⟩
        have hx8 : w8.heap[w7.heap.size]? = some (.cells #[.int .i64 3, .int .i64 4, .int .i64 21] 3 (0, 0)) := by rw [hw8]; exact heap_alloc_new w7 _
        have hg8 : Below w7.heap.size w7 w8 := by rw [hw8]; exact (Below.refl _ w7).alloc (Nat.le_refl _) _
        have HX8 := Lib.hid hx8
        have hl8 := (Array.getElem?_eq_some_iff.1 hx8).1
        have HG8 := Lib.hid hg8
        clear hx8 hg8
        go_wp2_with fail
        rw [← hw8]
        clear hw8
        go_loopg [42] 3 (fun gg s42 wr => ∃ j : Nat, gg = 3 - j ∧ j ≤ 3 ∧ s42 = .int .i64 (j : Int) ∧ Below w8.heap.size w8 wr ∧ ∀ i, i < j → isB S M (spX S M root) (spX S M root ([3, 4, 21].getD i 0)) 1 14 = true)
        case atStart => exact ⟨0, rfl, by omega, rfl, Below.refl _ _, fun i hi => by omega⟩
        case round =>
          obtain ⟨j, hgj, hj, rfl, hbr8, hdj⟩ := hrel
          have HGJ := Lib.hid hgj; have HDJ := Lib.hid hdj
          have hbr : Below w8.heap.size w8 wr := hbr8
          have HBR := Lib.hid (HG8.out.trans (hbr8.mono HG8.out.size))
          have KR := K7.out.later HBR.out
          have HB8 := Lib.hid hbr8
          clear hgj hdj hbr8
          by_cases h3 : j = 3
          · subst h3
            have HI0 := Lib.hid (HDJ.out 0 (by omega)); have HI1 := Lib.hid (HDJ.out 1 (by omega)); have HI2 := Lib.hid (HDJ.out 2 (by omega))
            have HDEF2 := Lib.hid (show rootB S M root = (isB S M (spX S M root) root 1 14 && ofB S M (spX S M root) (spX S M root 0) 8 && ofB S M (spX S M root) (spX S M root 1) 9 && ofB S M (spX S M root) (spX S M root 2) 10) from by
              have h0 := HI0.out; have h1 := HI1.out; have h2 := HI2.out
              simp only [List.getD_cons_zero, List.getD_cons_succ] at h0 h1 h2
              rw [HDEF.out, h0, h1, h2]; rfl)
            have r0 := KR.at_.rt
            have SL := Lib.hid (slots_any root KR KR.hr)
            have KH := Lib.hid KR
            generalize isB S M (spX S M root) root 1 14 = b0 at *
            clear hbr HI0 HI1 HI2 KR
            go_wp2_with fail
            refine SL.out.mono ?_
            rintro e w9 ⟨rfl, hg9⟩
            have HB9 := Lib.hid (HBR.out.trans (hg9.mono HBR.out.size))
            have K9 := Lib.hid (KH.out.later hg9)
            clear hg9 SL
            cases b0 with
            | false =>
              go_wp2_with fail
              go_ret
              exact ⟨by rw [HDEF2.out]; rfl, grown_trans HGR.out (grown_below2 HB9.out), fun h => by rw [HDEF2.out] at h; cases h⟩
            | true =>
              have s0 : w9.cell? ⟨L, 2, none⟩ = some (.int .u64 (spX S M root 0 : Int)) := K9.out.at_.word (i := 0) (by omega)
              have O0 := Lib.hid (of_any _ 8 K9.out (K9.out.hsp 0 (by omega)) (by omega))
              generalize ofB S M (spX S M root) (spX S M root 0) 8 = b1 at *
              go_wp2_with fail
              refine O0.out.mono ?_
              rintro e w10 ⟨rfl, hg10⟩
              have HB10 := Lib.hid (HB9.out.trans (hg10.mono HB9.out.size))
              have K10 := Lib.hid (K9.out.later hg10)
              clear hg10 O0 s0
              cases b1 with
              | false =>
                go_wp2_with fail
                go_ret
                exact ⟨by rw [HDEF2.out]; rfl, grown_trans HGR.out (grown_below2 HB10.out), fun h => by rw [HDEF2.out] at h; cases h⟩
              | true =>
                have s0 : w10.cell? ⟨L, 3, none⟩ = some (.int .u64 (spX S M root 1 : Int)) := K10.out.at_.word (i := 1) (by omega)
                have O0 := Lib.hid (of_any _ 9 K10.out (K10.out.hsp 1 (by omega)) (by omega))
                generalize ofB S M (spX S M root) (spX S M root 1) 9 = b2 at *
                go_wp2_with fail
                refine O0.out.mono ?_
                rintro e w11 ⟨rfl, hg11⟩
                have HB11 := Lib.hid (HB10.out.trans (hg11.mono HB10.out.size))
                have K11 := Lib.hid (K10.out.later hg11)
                clear hg11 O0 s0
                cases b2 with
                | false =>
                  go_wp2_with fail
                  go_ret
                  exact ⟨by rw [HDEF2.out]; rfl, grown_trans HGR.out (grown_below2 HB11.out), fun h => by rw [HDEF2.out] at h; cases h⟩
                | true =>
                  have s0 : w11.cell? ⟨L, 4, none⟩ = some (.int .u64 (spX S M root 2 : Int)) := K11.out.at_.word (i := 2) (by omega)
                  have O0 := Lib.hid (of_any _ 10 K11.out (K11.out.hsp 2 (by omega)) (by omega))
                  generalize ofB S M (spX S M root) (spX S M root 2) 10 = b3 at *
                  go_wp2_with fail
                  refine O0.out.mono ?_
                  rintro e w12 ⟨rfl, hg12⟩
                  have HB12 := Lib.hid (HB11.out.trans (hg12.mono HB11.out.size))
                  have K12 := Lib.hid (K11.out.later hg12)
                  clear hg12 O0 s0
                  go_wp2_with fail
                  go_ret
                  exact ⟨by rw [HDEF2.out]; simp, grown_trans HGR.out (grown_below2 HB12.out), fun _ => K12.out⟩
          · have hj3 : j = 0 ∨ j = 1 ∨ j = 2 := by omega
            rcases hj3 with e | e | e
            · obtain rfl := e
              have l0 := (hbr.cell (p := ⟨w7.heap.size, 0, none⟩) hl8).trans (cellO HX8.out 0)
              simp at l0
              have s0 : wr.cell? ⟨L, 5, none⟩ = some (.int .u64 (spX S M root 3 : Int)) := KR.at_.word (i := 3) (by omega)
              have SL := Lib.hid (slots_any _ KR (KR.hsp 3 (by omega)))
              clear hbr
              cases hb : isB S M (spX S M root) (spX S M root 3) 1 14 with
              | false =>
                rw [hb] at SL
                have HBF := Lib.hid (show rootB S M root = false by rw [HDEF.out, hb]; simp)
                clear hb
                go_wp2_with fail
                refine SL.out.mono ?_
                rintro e w9 ⟨rfl, hg9⟩
                have HB9 := Lib.hid (HBR.out.trans (hg9.mono HBR.out.size))
                clear hg9
                go_wp2_with fail
                go_ret
                exact ⟨by rw [HBF.out]; rfl, grown_trans HGR.out (grown_below2 HB9.out), fun h => by rw [HBF.out] at h; cases h⟩
              | true =>
                rw [hb] at SL
                have HOK := Lib.hid (show ∀ i, i < 0 + 1 → isB S M (spX S M root) (spX S M root ([3, 4, 21].getD i 0)) 1 14 = true from fun i hi => by
                  by_cases e : i = 0
                  · subst e; exact hb
                  · exact HDJ.out i (by omega))
                clear hb
                go_wp2_with fail
                refine SL.out.mono ?_
                rintro e w9 ⟨rfl, hg9⟩
                have HB9 := Lib.hid (HB8.out.trans (hg9.mono HB8.out.size))
                clear hg9
                go_wp2_with fail
                go_roundg (3 - (0 + 1))
                case measure => have := HGJ.out; omega
                case rel => exact ⟨0 + 1, by omega, by omega, by go_num, HB9.out, HOK.out⟩
            · obtain rfl := e
              have l0 := (hbr.cell (p := ⟨w7.heap.size, 1, none⟩) hl8).trans (cellO HX8.out 1)
              simp at l0
              have s0 : wr.cell? ⟨L, 6, none⟩ = some (.int .u64 (spX S M root 4 : Int)) := KR.at_.word (i := 4) (by omega)
              have SL := Lib.hid (slots_any _ KR (KR.hsp 4 (by omega)))
              clear hbr
              cases hb : isB S M (spX S M root) (spX S M root 4) 1 14 with
              | false =>
                rw [hb] at SL
                have HBF := Lib.hid (show rootB S M root = false by rw [HDEF.out, hb]; simp)
                clear hb
                go_wp2_with fail
                refine SL.out.mono ?_
                rintro e w9 ⟨rfl, hg9⟩
                have HB9 := Lib.hid (HBR.out.trans (hg9.mono HBR.out.size))
                clear hg9
                go_wp2_with fail
                go_ret
                exact ⟨by rw [HBF.out]; rfl, grown_trans HGR.out (grown_below2 HB9.out), fun h => by rw [HBF.out] at h; cases h⟩
              | true =>
                rw [hb] at SL
                have HOK := Lib.hid (show ∀ i, i < 1 + 1 → isB S M (spX S M root) (spX S M root ([3, 4, 21].getD i 0)) 1 14 = true from fun i hi => by
                  by_cases e : i = 1
                  · subst e; exact hb
                  · exact HDJ.out i (by omega))
                clear hb
                go_wp2_with fail
                refine SL.out.mono ?_
                rintro e w9 ⟨rfl, hg9⟩
                have HB9 := Lib.hid (HB8.out.trans (hg9.mono HB8.out.size))
                clear hg9
                go_wp2_with fail
                go_roundg (3 - (1 + 1))
                case measure => have := HGJ.out; omega
                case rel => exact ⟨1 + 1, by omega, by omega, by go_num, HB9.out, HOK.out⟩
            · obtain rfl := e
              have l0 := (hbr.cell (p := ⟨w7.heap.size, 2, none⟩) hl8).trans (cellO HX8.out 2)
              simp at l0
              have s0 : wr.cell? ⟨L, 23, none⟩ = some (.int .u64 (spX S M root 21 : Int)) := KR.at_.word (i := 21) (by omega)
              have SL := Lib.hid (slots_any _ KR (KR.hsp 21 (by omega)))
              clear hbr
              cases hb : isB S M (spX S M root) (spX S M root 21) 1 14 with
              | false =>
                rw [hb] at SL
                have HBF := Lib.hid (show rootB S M root = false by rw [HDEF.out, hb]; simp)
                clear hb
                go_wp2_with fail
                refine SL.out.mono ?_
                rintro e w9 ⟨rfl, hg9⟩
                have HB9 := Lib.hid (HBR.out.trans (hg9.mono HBR.out.size))
                clear hg9
                go_wp2_with fail
                go_ret
                exact ⟨by rw [HBF.out]; rfl, grown_trans HGR.out (grown_below2 HB9.out), fun h => by rw [HBF.out] at h; cases h⟩
              | true =>
                rw [hb] at SL
                have HOK := Lib.hid (show ∀ i, i < 2 + 1 → isB S M (spX S M root) (spX S M root ([3, 4, 21].getD i 0)) 1 14 = true from fun i hi => by
                  by_cases e : i = 2
                  · subst e; exact hb
                  · exact HDJ.out i (by omega))
                clear hb
                go_wp2_with fail
                refine SL.out.mono ?_
                rintro e w9 ⟨rfl, hg9⟩
                have HB9 := Lib.hid (HB8.out.trans (hg9.mono HB8.out.size))
                clear hg9
                go_wp2_with fail
                go_roundg (3 - (2 + 1))
                case measure => have := HGJ.out; omega
                case rel => exact ⟨2 + 1, by omega, by omega, by go_num, HB9.out, HOK.out⟩
      · have HBF := Lib.hid (show rootB S M root = false by rw [HDEF.out, decide_eq_false hk]; simp)
        go_wp2_with fail
        go_ret
        exact ⟨by rw [HBF.out]; rfl, grown_below2 HB6.out, fun h => by rw [HBF.out] at h; cases h⟩
    · have HBF := Lib.hid (show rootB S M root = false by rw [HDEF.out, decide_eq_false h24]; simp)
      have q1 : ((n : Int) == 24) = false := by simp; omega
      clear h24
      go_wp2_with fail
      go_ret
      exact ⟨by rw [HBF.out]; rfl, grown_below2 HB6.out, fun h => by rw [HBF.out] at h; cases h⟩)
end
end Go.Proofs.YtibopjjicfiimaaGreatDoor
namespace Go.Proofs.YtibopjjicfiimaaGreatDoor
open Go.RowKit
set_option linter.unusedVariables false
theorem calls_later_b {P : Program} {f : FuncId} {args : Array Value} {w : World} {x : Lt w} {v : Value}
    (h : ∀ W, Below w.heap.size w W → Calls P f args W fun e w' => e = .returned v ∧ Below W.heap.size W w') : Calls P f args (later w x) fun e w'' => e = .returned v ∧ ∃ y, w'' = later w y :=
  (h _ (later_below w x)).mono fun _ _ ⟨he, hb⟩ => ⟨he, later_of ((later_below w x).trans (hb.mono (later_below w x).size))⟩
/-- the names of the classes that the root has -/
def knL : List ByteArray := [⟨#[79, 98, 106, 101, 99, 116]⟩, ⟨#[67, 108, 97, 115, 115]⟩, ⟨#[77, 101, 116, 97, 99, 108, 97, 115, 115]⟩, ⟨#[85, 110, 100, 101, 102, 105, 110, 101, 100, 79, 98, 106, 101, 99, 116]⟩, ⟨#[84, 114, 117, 101]⟩, ⟨#[70, 97, 108, 115, 101]⟩, ⟨#[83, 109, 97, 108, 108, 73, 110, 116, 101, 103, 101, 114]⟩, ⟨#[83, 116, 114, 105, 110, 103]⟩, ⟨#[83, 121, 109, 98, 111, 108]⟩, ⟨#[65, 114, 114, 97, 121]⟩, ⟨#[77, 101, 116, 104, 111, 100]⟩, ⟨#[67, 111, 110, 116, 101, 120, 116]⟩, ⟨#[66, 108, 111, 99, 107]⟩, ⟨#[80, 114, 111, 99, 101, 115, 115]⟩, ⟨#[83, 101, 109, 97, 112, 104, 111, 114, 101]⟩, ⟨#[77, 101, 115, 115, 97, 103, 101]⟩]
def kn (i : Nat) : ByteArray := knL.getD i ByteArray.empty
theorem kn_size (i : Nat) : (kn i).size ≤ 20 := by
  unfold kn
  match i with
  | 0 => decide
  | 1 => decide
  | 2 => decide
  | 3 => decide
  | 4 => decide
  | 5 => decide
  | 6 => decide
  | 7 => decide
  | 8 => decide
  | 9 => decide
  | 10 => decide
  | 11 => decide
  | 12 => decide
  | 13 => decide
  | 14 => decide
  | 15 => decide
  | i + 16 => show (knL.getD (i + 16) ByteArray.empty).size ≤ 20; rw [List.getD_eq_getElem?_getD, List.getElem?_eq_none (by show 16 ≤ i + 16; omega)]; decide
set_option maxRecDepth 100000 in
theorem kernel_any (w : World) : Calls Tryz.prog 63 #[] w fun e w' => ∃ g, e = .returned (.slice (some ⟨g, 0, none⟩) 16 16) ∧ g < w'.heap.size ∧ (∀ i, i < 16 → w'.cell? ⟨g, i, none⟩ = some (.string (kn i))) ∧ Below w.heap.size w w' := by
  have hx := heap_alloc_new w (.cells #[.string ⟨#[79, 98, 106, 101, 99, 116]⟩, .string ⟨#[67, 108, 97, 115, 115]⟩, .string ⟨#[77, 101, 116, 97, 99, 108, 97, 115, 115]⟩, .string ⟨#[85, 110, 100, 101, 102, 105, 110, 101, 100, 79, 98, 106, 101, 99, 116]⟩, .string ⟨#[84, 114, 117, 101]⟩, .string ⟨#[70, 97, 108, 115, 101]⟩, .string ⟨#[83, 109, 97, 108, 108, 73, 110, 116, 101, 103, 101, 114]⟩, .string ⟨#[83, 116, 114, 105, 110, 103]⟩, .string ⟨#[83, 121, 109, 98, 111, 108]⟩, .string ⟨#[65, 114, 114, 97, 121]⟩, .string ⟨#[77, 101, 116, 104, 111, 100]⟩, .string ⟨#[67, 111, 110, 116, 101, 120, 116]⟩, .string ⟨#[66, 108, 111, 99, 107]⟩, .string ⟨#[80, 114, 111, 99, 101, 115, 115]⟩, .string ⟨#[83, 101, 109, 97, 112, 104, 111, 114, 101]⟩, .string ⟨#[77, 101, 115, 115, 97, 103, 101]⟩] 9)
  have hb : Below w.heap.size w (w.alloc (.cells #[.string ⟨#[79, 98, 106, 101, 99, 116]⟩, .string ⟨#[67, 108, 97, 115, 115]⟩, .string ⟨#[77, 101, 116, 97, 99, 108, 97, 115, 115]⟩, .string ⟨#[85, 110, 100, 101, 102, 105, 110, 101, 100, 79, 98, 106, 101, 99, 116]⟩, .string ⟨#[84, 114, 117, 101]⟩, .string ⟨#[70, 97, 108, 115, 101]⟩, .string ⟨#[83, 109, 97, 108, 108, 73, 110, 116, 101, 103, 101, 114]⟩, .string ⟨#[83, 116, 114, 105, 110, 103]⟩, .string ⟨#[83, 121, 109, 98, 111, 108]⟩, .string ⟨#[65, 114, 114, 97, 121]⟩, .string ⟨#[77, 101, 116, 104, 111, 100]⟩, .string ⟨#[67, 111, 110, 116, 101, 120, 116]⟩, .string ⟨#[66, 108, 111, 99, 107]⟩, .string ⟨#[80, 114, 111, 99, 101, 115, 115]⟩, .string ⟨#[83, 101, 109, 97, 112, 104, 111, 114, 101]⟩, .string ⟨#[77, 101, 115, 115, 97, 103, 101]⟩] 9)) := (Below.refl _ w).alloc (Nat.le_refl _) _
  have HK := Lib.hid (show ∀ i, i < 16 → (w.alloc (.cells #[.string ⟨#[79, 98, 106, 101, 99, 116]⟩, .string ⟨#[67, 108, 97, 115, 115]⟩, .string ⟨#[77, 101, 116, 97, 99, 108, 97, 115, 115]⟩, .string ⟨#[85, 110, 100, 101, 102, 105, 110, 101, 100, 79, 98, 106, 101, 99, 116]⟩, .string ⟨#[84, 114, 117, 101]⟩, .string ⟨#[70, 97, 108, 115, 101]⟩, .string ⟨#[83, 109, 97, 108, 108, 73, 110, 116, 101, 103, 101, 114]⟩, .string ⟨#[83, 116, 114, 105, 110, 103]⟩, .string ⟨#[83, 121, 109, 98, 111, 108]⟩, .string ⟨#[65, 114, 114, 97, 121]⟩, .string ⟨#[77, 101, 116, 104, 111, 100]⟩, .string ⟨#[67, 111, 110, 116, 101, 120, 116]⟩, .string ⟨#[66, 108, 111, 99, 107]⟩, .string ⟨#[80, 114, 111, 99, 101, 115, 115]⟩, .string ⟨#[83, 101, 109, 97, 112, 104, 111, 114, 101]⟩, .string ⟨#[77, 101, 115, 115, 97, 103, 101]⟩] 9)).cell? ⟨w.heap.size, i, none⟩ = some (.string (kn i)) from by
    intro i hi
    match i, hi with
    | 0, _ => exact cellO hx 0
    | 1, _ => exact cellO hx 1
    | 2, _ => exact cellO hx 2
    | 3, _ => exact cellO hx 3
    | 4, _ => exact cellO hx 4
    | 5, _ => exact cellO hx 5
    | 6, _ => exact cellO hx 6
    | 7, _ => exact cellO hx 7
    | 8, _ => exact cellO hx 8
    | 9, _ => exact cellO hx 9
    | 10, _ => exact cellO hx 10
    | 11, _ => exact cellO hx 11
    | 12, _ => exact cellO hx 12
    | 13, _ => exact cellO hx 13
    | 14, _ => exact cellO hx 14
    | 15, _ => exact cellO hx 15
    | i + 16, hi => omega)
  have HB := Lib.hid hb
  have hl := (Array.getElem?_eq_some_iff.1 hx).1
  clear hx hb
  go_enter Tryz.func63, Tryz.ntmps63
  go_wp2_with fail
  go_ret
  exact ⟨_, rfl, hl, HK.out, HB.out⟩
end Go.Proofs.YtibopjjicfiimaaGreatDoor
namespace Go.Proofs.YtibopjjicfiimaaGreatDoor
open Go.RowKit
set_option linter.unusedVariables false
/-- the words two by two -/
def prsL : List Nat → List (Nat × Nat)
  | a :: b :: l => (a, b) :: prsL l
  | _ => []
theorem prsL_get : ∀ (l : List Nat) (k : Nat), 2 * k + 1 < l.length → (prsL l)[k]? = some (l.getD (2 * k) 0, l.getD (2 * k + 1) 0)
  | a :: b :: l, 0, _ => rfl
  | a :: b :: l, k + 1, h => by
    have h2 : 2 * k + 1 < l.length := by simp at h; omega
    show (prsL l)[k]? = _
    rw [prsL_get l k h2, show 2 * (k + 1) = 2 * k + 1 + 1 by omega, show 2 * k + 1 + 1 + 1 = (2 * k + 1) + 1 + 1 by omega]
    rfl
  | [a], k, h => by simp at h
  | [], k, h => by simp at h
theorem prsL_len : ∀ (l : List Nat), (prsL l).length = l.length / 2
  | a :: b :: l => by show (prsL l).length + 1 = _; rw [prsL_len l]; simp only [List.length_cons]; omega
  | [a] => by simp [prsL]
  | [] => rfl
/-- each is a class of its own, of its own name -/
def namF (S : Nat → Bool) (M : Nat → Nat) : List Nat → List (Nat × Nat) → Bool
  | _, [] => true
  | seen, p :: l => shB S M p.2 && !(decide (p.2 ∈ seen)) && decide (getX S M p.2 3 = p.1) && namF S M (seen ++ [p.2]) l
theorem namF_cons (S : Nat → Bool) (M : Nat → Nat) (seen : List Nat) (s c : Nat) (l : List (Nat × Nat)) : namF S M seen ((s, c) :: l) = (shB S M c && !(decide (c ∈ seen)) && decide (getX S M c 3 = s) && namF S M (seen ++ [c]) l) := rfl
/-- the classes by their names -/
def bnF (S : Nat → Bool) (M : Nat → Nat) (l : List (Nat × Nat)) : List UInt8 → Option Nat := l.foldl (fun f p => updS f (bytX S M p.1) p.2) (fun _ => none)
theorem bnF_snoc (S : Nat → Bool) (M : Nat → Nat) (l : List (Nat × Nat)) (p : Nat × Nat) : bnF S M (l ++ [p]) = updS (bnF S M l) (bytX S M p.1) p.2 := by unfold bnF; rw [List.foldl_append]; rfl
def kerB (f : List UInt8 → Option Nat) (sp : Nat → Nat) : Bool := (List.range 16).all fun i => decide ((f (kn i).data.toList).getD 0 ≠ 0) && decide ((f (kn i).data.toList).getD 0 = sp (5 + i))
def namB (S : Nat → Bool) (M : Nat → Nat) (sp : Nat → Nat) : Bool :=
  decide ((wrdX S M (sp 3)).length % 2 = 0) && risF S M sp none (nthL 2 (wrdX S M (sp 3))) && namF S M [] (prsL (wrdX S M (sp 3))) && kerB (bnF S M (prsL (wrdX S M (sp 3)))) sp
theorem namB_def (S : Nat → Bool) (M : Nat → Nat) (sp : Nat → Nat) : namB S M sp = (decide ((wrdX S M (sp 3)).length % 2 = 0) && risF S M sp none (nthL 2 (wrdX S M (sp 3))) && namF S M [] (prsL (wrdX S M (sp 3))) && kerB (bnF S M (prsL (wrdX S M (sp 3)))) sp) := rfl
/-- the classes of the globals -/
def clsL (S : Nat → Bool) (M : Nat → Nat) (sp : Nat → Nat) : List Nat := (prsL (wrdX S M (sp 3))).map (·.2)
/-- what stays of a world: the blocks that p tells -/
structure Frm (w w' : World) (p : Nat → Prop) : Prop where
  os : w'.os = w.os
  tape : w'.tape = w.tape
  output : w'.output = w.output
  size : w.heap.size ≤ w'.heap.size
  block : ∀ q, q < w.heap.size → p q → w'.heap[q]? = w.heap[q]?
theorem Frm.refl (w : World) (p : Nat → Prop) : Frm w w p := ⟨rfl, rfl, rfl, Nat.le_refl _, fun _ _ _ => rfl⟩
theorem Frm.grown {w a b : World} {p : Nat → Prop} {row : Option Nat} (h : Frm w a p) (k : a.grownBy b row) (hp : ∀ q, q < w.heap.size → p q → some q ≠ row) : Frm w b p :=
  ⟨k.os.trans h.os, k.tape.trans h.tape, k.output.trans h.output, Nat.le_trans h.size k.size, fun q hq pq => (k.block q (Nat.lt_of_lt_of_le hq h.size) (hp q hq pq)).trans (h.block q hq pq)⟩
theorem Frm.below {w a b : World} {p : Nat → Prop} (h : Frm w a p) (k : Below a.heap.size a b) : Frm w b p :=
  h.grown (grown_below2 (row := none) k) (fun _ _ _ => by simp)
theorem Frm.cell {w a : World} {p : Nat → Prop} (h : Frm w a p) {q o : Nat} (hq : q < w.heap.size) (pq : p q) : a.cell? ⟨q, o, none⟩ = w.cell? ⟨q, o, none⟩ := World.cell?_of_block (h.block q hq pq)
section
variable {w w' : World} {h L root : Nat} {sp : Nat → Nat} {cv : Value}
theorem SndAt.block (k : SndAt w L h root sp cv) (hb : w'.heap[L]? = w.heap[L]?) : SndAt w' L h root sp cv := by
  obtain ⟨cur, h1, h2⟩ := k
  exact ⟨cur, hb.trans h1, h2⟩
theorem SndAt.set (k : SndAt w L h root sp cv) (v : Value) : SndAt (w.setCell ⟨L, 26, none⟩ v) L h root sp v := by
  obtain ⟨cur, h1, h2, h3, h4, h5, h6⟩ := k
  refine ⟨_, heap_setCell_same _ _ _ _ _ _ h1, by simp [h2], ?_, ?_, fun i hi => ?_, ?_⟩
  · rw [Array.getElem?_setIfInBounds_ne (by omega)]; exact h3
  · rw [Array.getElem?_setIfInBounds_ne (by omega)]; exact h4
  · rw [Array.getElem?_setIfInBounds_ne (by omega)]; exact h5 i hi
  · rw [Array.getElem?_setIfInBounds_self_of_lt (by omega)]
theorem SndAt.frozen (k : SndAt w L h root sp cv) (o : Nat) : w.frozen? ⟨L, o, none⟩ = false := by
  obtain ⟨cur, h1, -⟩ := k
  unfold World.frozen?
  rw [h1]; rfl
theorem grown_set {a : Addr} {v : Value} : w.grownBy (w.setCell a v) (some a.block) :=
  ⟨rfl, rfl, rfl, by simp, fun q _ hq => Below.heap_setCell _ _ _ _ (by simp; exact fun e => hq (by rw [e]))⟩
end
end Go.Proofs.YtibopjjicfiimaaGreatDoor
namespace Go.Proofs.YtibopjjicfiimaaGreatDoor
open Go.RowKit Go.Maps
set_option linter.unusedVariables false
theorem getD_mem {l : List Nat} {i : Nat} (h : i < l.length) : l.getD i 0 ∈ l := by
  rw [List.getD_eq_getElem?_getD, List.getElem?_eq_getElem h]; exact List.getElem_mem h
theorem owns_grown {w w' : World} {B e s n : Nat} {v : Value} {xs : List Value} {row : Option Nat} (h : w.ownsRow B e s v n xs) (hg : w.grownBy w' row) (hne : ∀ q, B ≤ q → some q ≠ row) : w'.ownsRow B e s v n xs := by
  refine h.kept hg ?_
  cases hv : v.ownBlock with
  | none => exact Or.inl rfl
  | some q => exact Or.inr (hne q (h.lt q hv).1)
section
variable {w : World} {B h N free L root : Nat} {S : Nat → Bool} {M : Nat → Nat} {sp : Nat → Nat}
set_option maxRecDepth 100000 in
set_option maxHeartbeats 6400000 in
theorem named_any (k : Lk w B h N free S M L root sp (.slice none 0 0)) :
    Calls Tryz.prog 24 #[.pointer (some ⟨L, 0, none⟩)] w fun e w' => e = .returned (.bool (namB S M sp)) ∧ w.grownBy w' (some L) ∧ (namB S M sp = true → ∃ cv, Lk w' B h N free S M L root sp cv ∧ WordsAt w' cv (clsL S M sp)) := by
  have WD := Lib.hid (wrds_any (sp 3) k (k.hsp 3 (by omega)))
  have y0 : w.cell? ⟨L, 5, none⟩ = some (.int .u64 (sp 3 : Int)) := k.at_.word (i := 3) (by omega)
  have K := Lib.hid k
  have hLl := k.at_.lt
  have HWS := Lib.hid (fun y (hy : y ∈ wrdX S M (sp 3)) => wrdX_lt k hy)
  have HDEF := Lib.hid (namB_def S M sp)
  have hlen := wrdX_len_le k (sp 3)
  have HC := Lib.hid (show clsL S M sp = (prsL (wrdX S M (sp 3))).map (·.2) from rfl)
  have HG := Lib.hid (fun i => getX_lt k i)
  obtain ⟨i2, hi2, hc0, hc1, hc2⟩ := info_parts cellInfo
  have hmm := @run_makeMap Tryz.prog
  clear k
  go_enter Tryz.func24, Tryz.ntmps24
  go_wp2_with fail
  refine WD.out.mono ?_
  rintro e w1 ⟨v, rfl, hwa, hup, hg1⟩
  have HG1 := Lib.hid hg1; have HWA := Lib.hid hwa
  obtain ⟨va, vc, rfl, -⟩ := hwa.get
  have hs1 := hg1.size
  have RI := Lib.hid (rising_any _ _ 2 (K.out.later hg1) hwa HWS.out (by omega) (by omega) (by omega))
  clear hwa WD y0 hg1
  have HUP := Lib.hid hup; clear hup
  obtain ⟨ws, hwse⟩ : ∃ ws, wrdX S M (sp 3) = ws := ⟨_, rfl⟩
  rw [hwse] at HWA HWS HDEF hlen HC RI HUP ⊢
  clear hwse
  obtain ⟨n, hn⟩ : ∃ n, ws.length = n := ⟨_, rfl⟩
  have HN := Lib.hid hn
  rw [hn] at HWA HDEF hlen RI HUP ⊢
  clear hn
  by_cases h2 : n % 2 = 0
  · obtain ⟨m, rfl⟩ : ∃ m, n = 2 * m := ⟨n / 2, by omega⟩
    have hz : (2 * (m : Int)).tmod 2 = 0 := by rw [Int.tmod_eq_emod_of_nonneg (by omega)]; omega
    cases hr : risF S M sp none (nthL 2 ws) with
    | false =>
      rw [hr] at RI
      have HBF := Lib.hid (show namB S M sp = false by rw [HDEF.out, hr]; simp)
      clear hr
      go_wp2_with fail
      refine RI.out.mono ?_
      rintro e w2 ⟨rfl, hg2⟩
      have HG2 := Lib.hid (HG1.out.trans (hg2.mono HG1.out.size))
      clear hg2
      go_wp2_with fail
      go_ret
      exact ⟨by rw [HBF.out]; rfl, grown_below2 HG2.out, fun h => by rw [HBF.out] at h; cases h⟩
    | true =>
      rw [hr] at RI
      have HDEF2 := Lib.hid (show namB S M sp = (namF S M [] (prsL ws) && kerB (bnF S M (prsL ws)) sp) by rw [HDEF.out, hr, decide_eq_true h2]; rfl)
      have hpl := prsL_len ws
      rw [HN.out, show 2 * m / 2 = m by omega] at hpl
      have HPP := Lib.hid (fun k (hk : k < m) => show (prsL ws).drop k = (ws.getD (2 * k) 0, ws.getD (2 * k + 1) 0) :: (prsL ws).drop (k + 1) ∧ (prsL ws).take (k + 1) = (prsL ws).take k ++ [(ws.getD (2 * k) 0, ws.getD (2 * k + 1) 0)] from by
        have hg := prsL_get ws k (by rw [HN.out]; omega)
        have hlt : k < (prsL ws).length := by omega
        rw [List.getElem?_eq_getElem hlt] at hg
        have hg := Option.some.inj hg
        exact ⟨by rw [List.drop_eq_getElem_cons hlt, hg], by rw [List.take_succ_eq_append_getElem hlt, hg]⟩)
      obtain ⟨P, hP⟩ : ∃ P, prsL ws = P := ⟨_, rfl⟩
      rw [hP] at HDEF2 HPP HC hpl
      have HPL := Lib.hid hpl
      clear hr hP h2 hpl
      go_wp2_with fail
      refine RI.out.mono ?_
      rintro e w2 ⟨rfl, hg2⟩
      have HG2 := Lib.hid (HG1.out.trans (hg2.mono HG1.out.size))
      have HWA2 := Lib.hid (HWA.out.later hg2)
      have hs2 := hg2.size
      clear hg2 RI
      have hm3 := (MapS.made (E := 39) w2)
      obtain ⟨w4, hw4⟩ : ∃ w4, w4 = (w2.alloc (.map #[] 0)).alloc (.map #[] 0) := ⟨_, rfl⟩
      have hg4 : Below w2.heap.size w2 w4 := by rw [hw4]; exact ((Below.refl _ w2).alloc (Nat.le_refl _) _).alloc (by simp) _
      have hm4 : MapS 39 w4 w2.heap.size (fun _ => none) 0 := by
        rw [hw4]; exact hm3.block (Below.heap_alloc _ _ _ (by simp))
      have hs4 : SetW w4 (w2.heap.size + 1) (fun _ => false) 0 := by
        have := SetW.made (w2.alloc (.map #[] 0))
        rw [show (w2.alloc (.map #[] 0)).heap.size = w2.heap.size + 1 by simp] at this
        rw [hw4]; exact this
      have hz4 : w4.heap.size = w2.heap.size + 2 := by rw [hw4]; simp
      have HM4 := Lib.hid hm4; have HS4 := Lib.hid hs4
      have HG4 := Lib.hid (HG2.out.trans (hg4.mono HG2.out.size))
      have HWA4 := Lib.hid (HWA2.out.later hg4)
      clear hm3 hm4 hs4 hg4 HWA2
      go_wp2_with fail
      rw [← hw4]
      clear hw4
      obtain ⟨bm, hbm⟩ : ∃ bm, w2.heap.size = bm := ⟨_, rfl⟩
      rw [hbm] at HM4 HS4 hz4 hs2 ⊢
      clear hbm
      have hLb : L < bm := by omega
      have HCB := Lib.hid (fun (hm0 : 0 < m) => show ∀ b o n c, Value.slice va (2 * m) vc = .slice (some ⟨b, o, none⟩) n c → w.heap.size ≤ b ∧ b < bm from by
        intro b o n c he
        refine ⟨HUP.out b o n c he, ?_⟩
        have hw := HWA.out
        rw [← HN.out] at hw
        obtain ⟨a', c', he', -, -, hat⟩ := hw.at
        simp only [Value.slice.injEq, true_and] at he'
        obtain ⟨rfl, rfl⟩ := he'
        obtain ⟨b', o', hva, hbl, -⟩ := hat 0 (by rw [HN.out]; omega)
        simp only [Value.slice.injEq] at he
        rw [hva] at he
        obtain ⟨he, -⟩ := he
        injection he with he
        injection he with he _ _
        omega)
      go_loopg [6] m (fun gg s6 wr => ∃ (k : Nat) (cvk : Value), gg = m - k ∧ k ≤ m ∧ s6 = .int .i64 ((2 * k : Nat) : Int) ∧ Frm w4 wr (fun q => q ≠ L ∧ q ≠ bm ∧ q ≠ bm + 1) ∧ SndAt wr L h root sp cvk ∧ wr.ownsRow (bm + 2) 39 1 cvk k (wordVals ((P.map (·.2)).take k)) ∧ MapS 39 wr bm (bnF S M (P.take k)) k ∧ SetW wr (bm + 1) (fun y => decide (y ∈ (P.map (·.2)).take k)) k ∧ namF S M [] P = namF S M ((P.map (·.2)).take k) (P.drop k))
      case atStart =>
        refine ⟨0, _, rfl, by omega, rfl, Frm.refl _ _, K.out.at_.later HG4.out, World.ownsRow_nil _ _ _ _, HM4.out, ?_, rfl⟩
        have := HS4.out
        simpa using this
      case round =>
        obtain ⟨k, cvk, hgk, hk, rfl, hfr, hsn, hrow, hms, hset, hnf⟩ := hrel
        have HGK := Lib.hid hgk; have HFR := Lib.hid hfr; have HSN := Lib.hid hsn; have HROW := Lib.hid hrow; have HMS := Lib.hid hms; have HSET := Lib.hid hset; have HNF := Lib.hid hnf
        have hsr := hfr.size
        have HGR := Lib.hid (show w.grownBy wr (some L) from ⟨hfr.os.trans HG4.out.os, hfr.tape.trans HG4.out.tape, hfr.output.trans HG4.out.output, Nat.le_trans HG4.out.size hfr.size, fun q hq hne => (hfr.block q (Nat.lt_of_lt_of_le hq HG4.out.size) ⟨fun e => hne (by rw [e]), by omega, by omega⟩).trans (HG4.out.block q hq)⟩)
        have HKR := Lib.hid (K.out.turn HGR.out hsn K.out.hsp)
        clear hgk hfr hsn hrow hms hset hnf
        by_cases hlt : k < m
        · have HWR := HWA4.out.keep fun b o n c e => HFR.out.block b (by have := HCB.out (by omega) b o n c e; omega) (by have := HCB.out (by omega) b o n c e; refine ⟨?_, ?_, ?_⟩ <;> omega)
          rw [← HN.out] at HWR
          obtain ⟨a', c', he', -, -, hat⟩ := HWR.at
          rw [HN.out] at he'
          simp only [Value.slice.injEq, true_and] at he'
          obtain ⟨rfl, rfl⟩ := he'
          obtain ⟨gb, go, rfl, hgl, hs0⟩ := hat (2 * k) (by rw [HN.out]; omega)
          obtain ⟨gb', go', hva, -, hc0'⟩ := hat (2 * k + 1) (by rw [HN.out]; omega)
          simp only [Option.some.injEq, Addr.mk.injEq, and_true] at hva
          obtain ⟨rfl, rfl⟩ := hva
          have hs := HWS.out _ (getD_mem (l := ws) (i := 2 * k) (by rw [HN.out]; omega))
          have hc := HWS.out _ (getD_mem (l := ws) (i := 2 * k + 1) (by rw [HN.out]; omega))
          obtain ⟨hd, ht⟩ := HPP.out k hlt
          clear hat HWR
          obtain ⟨s, hse⟩ : ∃ s, ws.getD (2 * k) 0 = s := ⟨_, rfl⟩
          obtain ⟨c, hce⟩ : ∃ c, ws.getD (2 * k + 1) 0 = c := ⟨_, rfl⟩
          rw [hse] at hs0 hs hd ht
          rw [hce] at hc0' hc hd ht
          clear hse hce
          have hnf2 := HNF.out
          rw [hd, namF_cons] at hnf2
          have HNF2 := Lib.hid hnf2
          have HPT := Lib.hid ht
          have SH := Lib.hid (fun W (hW : Below wr.heap.size wr W) => shaped_any c (HKR.out.later hW) hc)
          have PT := Lib.hid (fun W (hW : Below wr.heap.size wr W) => part_any c 3 (HKR.out.later hW) hc (by omega))
          have lk := fun x => (HSET.out.later (later_below wr x)).look hc
          clear hd ht hnf2
          cases b1 : shB S M c with
          | false =>
            rw [b1] at SH
            have HBF := Lib.hid (show namB S M sp = false by rw [HDEF2.out, HNF2.out, b1]; rfl)
            clear b1
            go_upto_region 10 with fail
            (refine wp_region_later (by kernel_rfl) (by kernel_rfl) ?_; (repeat (go_big_quiet_step ((first | (go_at_call 60; exact calls_later_b SH.out) | (go_at_call 61; exact calls_later_b PT.out))))); refine wpQuiet_nil ?_; intro w6 hw4; have hg := later_elim hw4; clear hw4)
            go_wp2_with fail
            go_ret
            exact ⟨by rw [HBF.out]; rfl, grown_trans HGR.out (grown_below2 hg), fun h => by rw [HBF.out] at h; cases h⟩
          | true =>
            rw [b1] at SH
            cases b2 : decide (c ∈ (P.map (·.2)).take k) with
            | true =>
              simp only [b2] at lk
              have HBF := Lib.hid (show namB S M sp = false by rw [HDEF2.out, HNF2.out, b1, b2]; rfl)
              clear b1 b2
              go_upto_region 10 with fail
              (refine wp_region_later (by kernel_rfl) (by kernel_rfl) ?_; (repeat (go_big_quiet_step ((first | (go_at_call 60; exact calls_later_b SH.out) | (go_at_call 61; exact calls_later_b PT.out))))); refine wpQuiet_nil ?_; intro w6 hw4; have hg := later_elim hw4; clear hw4)
              go_wp2_with fail
              go_ret
              exact ⟨by rw [HBF.out]; rfl, grown_trans HGR.out (grown_below2 hg), fun h => by rw [HBF.out] at h; cases h⟩
            | false =>
              simp only [b2] at lk
              by_cases b3 : getX S M c 3 = s
              · rw [b3] at PT
                have HNF3 := Lib.hid (show namF S M [] P = namF S M ((P.map (·.2)).take k ++ [c]) (P.drop (k + 1)) by rw [HNF2.out, b1, b2, decide_eq_true b3]; rfl)
                clear b1 b2 b3
                go_upto_region 10 with fail
                (refine wp_region_later (by kernel_rfl) (by kernel_rfl) ?_; (repeat (go_big_quiet_step ((first | (go_at_call 60; exact calls_later_b SH.out) | (go_at_call 61; exact calls_later_b PT.out))))); refine wpQuiet_nil ?_; intro w6 hw4; have hg := later_elim hw4; clear hw4)
                have HG6 := Lib.hid hg
                have s6 := (hg.cell (p := ⟨gb, go + 2 * k, none⟩) hgl).trans hs0
                have TX := Lib.hid (text_any s (HKR.out.later hg) hs)
                clear hg lk hs0 hc0' SH PT
                go_wp2_with fail
                refine TX.out.mono ?_
                rintro e w7 ⟨v7, rfl, hb7, hg7⟩
                have HG7 := Lib.hid (HG6.out.trans (hg7.mono HG6.out.size))
                have HB7 := Lib.hid hb7
                clear hg7 hb7 s6 TX
                have hsz : (⟨(bytX S M s).toArray⟩ : ByteArray).size ≤ maxLen := by
                  obtain ⟨a, cap, -, q1, q2, -⟩ := HB7.out
                  show (bytX S M s).toArray.size ≤ maxLen
                  simp; omega
                have hcv := run_string_of HB7.out
                obtain ⟨w8, hrun1, hms8, hgr8⟩ := (HMS.out.later HG7.out).store (T := 124) Tryz.underlying124 Tryz.underlying39 hsz hc (by omega)
                have hset8 := (HSET.out.later HG7.out).block (hgr8.block (bm + 1) (HSET.out.later HG7.out).lt (by simp))
                obtain ⟨w9, hrun2, hset9, hgr9⟩ := hset8.store hc (by omega)
                have hl7 : L < w7.heap.size := by have := HG7.out.size; have := HGR.out.size; omega
                have HSN9 := Lib.hid (((HSN.out.later HG7.out).block (hgr8.block L hl7 (by simp; omega))).block (hgr9.block L (Nat.lt_of_lt_of_le hl7 hgr8.size) (by simp; omega)))
                have HMS9 := Lib.hid (hms8.block (hgr9.block bm hms8.lt (by simp)))
                have HSET9 := Lib.hid hset9
                have HROW9 := Lib.hid (owns_grown (owns_grown (owns_later HROW.out HG7.out) hgr8 (fun q hq => by simp; omega)) hgr9 (fun q hq => by simp; omega))
                have HFR9 := Lib.hid ((((HFR.out.below HG7.out).grown hgr8 (fun q _ hq => by simp; exact hq.2.1)).grown hgr9 (fun q _ hq => by simp; exact hq.2.2)))
                have hsz9 : bm + 2 ≤ w9.heap.size := by have := HFR9.out.size; omega
                clear hset8 hms8 hset9 hgr8 hgr9 hl7
                go_upto_region 13 with fail
                go_upto_region 14 with fail
                clear hrun1 hrun2 hcv hsz
                have y0 := HSN9.out.cls
                go_wp2_with (at_builtin; refine wpList_append_own _ rfl _ _ 40 rfl (bm + 2) 39 i2 (.int .u64 0) 1 8 Tryz.underlying40 hi2 hc0 hc1 hc2 rfl (by decide) _ _ _ rfl (HROW9.out.alloc _) ⟨w9.heap.size, 0, none⟩ 1 1 [.int .u64 (c : Int)] rfl rfl ?na1 ?na2 ?na3 ?na4 ?na5 ?_)
                case na1 =>
                  intro j u hj
                  match j, hj with
                  | 0, hj => simp at hj; subst hj; simp [Addr.add]
                case na2 => intro u hu; simp at hu; subst hu; rfl
                case na3 => unfold maxLen; omega
                case na4 => omega
                case na5 => simp; omega
                intro v10 w10 hown' hgrow _
                obtain ⟨g10, c10, rfl, hg10, -⟩ := World.ownsRow.form hown' (by omega)
                have hrowne : ∀ q, q < bm + 2 → some q ≠ cvk.ownBlock := fun q hq e => by have := (HROW9.out.lt q e.symm).1; omega
                have ga : w9.grownBy (w9.alloc (.cells #[.int .u64 (c : Int)] 39)) cvk.ownBlock := grown_below2 ((Below.refl _ w9).alloc (Nat.le_refl _) _)
                have g9 := grown_trans ga hgrow
                have hl9 : L < w9.heap.size := HSN9.out.lt
                have sn10 := HSN9.out.block (g9.block L hl9 (hrowne L (by omega)))
                have y1 := sn10.cls
                have yf := sn10.frozen 26
                have g11 : w10.grownBy (w10.setCell ⟨L, 26, none⟩ (.slice (some ⟨g10, 0, none⟩) (k + 1) c10)) (some L) := grown_set (a := ⟨L, 26, none⟩)
                have HSN11 := Lib.hid (sn10.set (.slice (some ⟨g10, 0, none⟩) (k + 1) c10))
                have HROW11 := Lib.hid (show (w10.setCell ⟨L, 26, none⟩ (.slice (some ⟨g10, 0, none⟩) (k + 1) c10)).ownsRow (bm + 2) 39 1 (.slice (some ⟨g10, 0, none⟩) (k + 1) c10) (k + 1) (wordVals ((P.map (·.2)).take (k + 1))) from by
                  have ht : (P.map (·.2)).take (k + 1) = (P.map (·.2)).take k ++ [c] := by rw [← List.map_take, HPT.out, List.map_append, List.map_take]; rfl
                  rw [ht, show wordVals ((P.map (·.2)).take k ++ [c]) = wordVals ((P.map (·.2)).take k) ++ [.int .u64 (c : Int)] by simp [wordVals]]
                  exact owns_grown hown' g11 (fun q hq => by simp; omega))
                have HMS11 := Lib.hid (show MapS 39 (w10.setCell ⟨L, 26, none⟩ (.slice (some ⟨g10, 0, none⟩) (k + 1) c10)) bm (bnF S M (P.take (k + 1))) (k + 1) from by
                  rw [HPT.out, bnF_snoc]
                  exact (HMS9.out.block (g9.block bm HMS9.out.lt (hrowne bm (by omega)))).block (g11.block bm (Nat.lt_of_lt_of_le HMS9.out.lt g9.size) (by simp; omega)))
                have HSET11 := Lib.hid (show SetW (w10.setCell ⟨L, 26, none⟩ (.slice (some ⟨g10, 0, none⟩) (k + 1) c10)) (bm + 1) (fun y => decide (y ∈ (P.map (·.2)).take (k + 1))) (k + 1) from by
                  have ht : (P.map (·.2)).take (k + 1) = (P.map (·.2)).take k ++ [c] := by rw [← List.map_take, HPT.out, List.map_append, List.map_take]; rfl
                  have h1 := (HSET9.out.block (g9.block (bm + 1) HSET9.out.lt (hrowne (bm + 1) (by omega)))).block (g11.block (bm + 1) (Nat.lt_of_lt_of_le HSET9.out.lt g9.size) (by simp; omega))
                  rw [show (fun y => decide (y ∈ (P.map (·.2)).take (k + 1))) = fun y => decide (y = c) || decide (y ∈ (P.map (·.2)).take k) from by
                    funext y
                    rw [ht, Bool.eq_iff_iff]
                    simp only [Bool.or_eq_true, decide_eq_true_eq, List.mem_append, List.mem_singleton]
                    exact Or.comm]
                  exact h1)
                have HFR11 := Lib.hid ((HFR9.out.grown g9 (fun q hq _ => hrowne q (by omega))).grown g11 (fun q _ hq => by simp; exact hq.1))
                have HNF11 := Lib.hid (show namF S M [] P = namF S M ((P.map (·.2)).take (k + 1)) (P.drop (k + 1)) from by
                  have ht : (P.map (·.2)).take (k + 1) = (P.map (·.2)).take k ++ [c] := by rw [← List.map_take, HPT.out, List.map_append, List.map_take]; rfl
                  rw [ht]; exact HNF3.out)
                clear hown' hgrow hrowne ga g9 hl9 sn10 g11
                go_wp2_with fail
                go_roundg (m - (k + 1))
                case measure => have := HGK.out; omega
                case rel => exact ⟨k + 1, _, rfl, by omega, by go_num, HFR11.out, HSN11.out, HROW11.out, HMS11.out, HSET11.out, HNF11.out⟩
              · have HBF := Lib.hid (show namB S M sp = false by rw [HDEF2.out, HNF2.out, b1, b2, decide_eq_false b3]; rfl)
                have q3 : ((getX S M c 3 : Int) != (s : Int)) = true := by simp; omega
                clear b1 b2
                go_upto_region 10 with fail
                (refine wp_region_later (by kernel_rfl) (by kernel_rfl) ?_; (repeat (go_big_quiet_step ((first | (go_at_call 60; exact calls_later_b SH.out) | (go_at_call 61; exact calls_later_b PT.out))))); refine wpQuiet_nil ?_; intro w6 hw4; have hg := later_elim hw4; clear hw4)
                go_wp2_with fail
                go_ret
                exact ⟨by rw [HBF.out]; rfl, grown_trans HGR.out (grown_below2 hg), fun h => by rw [HBF.out] at h; cases h⟩
        · obtain rfl : k = m := by omega
          have hnf : namF S M [] P = true := by rw [HNF.out, List.drop_eq_nil_of_le (by rw [HPL.out]; exact Nat.le_refl _)]; cases (P.map (·.2)).take k <;> rfl
          have HD3 := Lib.hid (show namB S M sp = kerB (bnF S M P) sp by rw [HDEF2.out, hnf]; rfl)
          have hms := HMS.out
          rw [List.take_of_length_le (show P.length ≤ k by rw [HPL.out]; exact Nat.le_refl _)] at hms
          have HMS2 := Lib.hid hms
          have hrow := HROW.out
          rw [List.take_of_length_le (show (P.map (·.2)).length ≤ k by rw [List.length_map, HPL.out]; exact Nat.le_refl _)] at hrow
          have HROW2 := Lib.hid hrow
          have KN := Lib.hid (kernel_any wr)
          clear hnf hms hrow
          go_wp2_with fail
          refine KN.out.mono ?_
          rintro e w6 ⟨g, rfl, hgl, hkn, hg6⟩
          have HKN := Lib.hid hkn; have HG6 := Lib.hid hg6
          clear hkn hg6 KN
          go_wp2_with fail
          go_loopg [88] 16 (fun gg s88 wx => ∃ j : Nat, gg = 16 - j ∧ j ≤ 16 ∧ s88 = .int .i64 (j : Int) ∧ Below w6.heap.size w6 wx ∧ ∀ i, i < j → (((bnF S M P) (kn i).data.toList).getD 0 ≠ 0 ∧ ((bnF S M P) (kn i).data.toList).getD 0 = sp (5 + i)))
          case atStart => exact ⟨0, rfl, by omega, rfl, Below.refl _ _, fun i hi => by omega⟩
          case round =>
            obtain ⟨j, hgj, hj, rfl, hbx, hdj⟩ := hrel
            have HGJ := Lib.hid hgj; have HBX := Lib.hid hbx; have HDJ := Lib.hid hdj
            have HBW := Lib.hid (HG6.out.trans (hbx.mono HG6.out.size))
            have KX := HKR.out.later HBW.out
            have HKX := Lib.hid KX
            clear hgj hdj
            by_cases hj16 : j < 16
            · have l0 := (hbx.cell (p := ⟨g, j, none⟩) hgl).trans (HKN.out j hj16)
              have hLr : L < wr.heap.size := KX.at_.lt
              have hgr : g < wr.heap.size := Nat.lt_of_lt_of_le hgl hbx.size
              have s0 : wr.cell? ⟨L, 2 + (5 + j), none⟩ = some (.int .u64 (sp (5 + j) : Int)) := KX.at_.word (i := 5 + j) (by omega)
              have lk := fun x => ((HMS2.out.later HBW.out).later (later_below wr x)).look (T := 124) Tryz.underlying124 Tryz.underlying39 (by kernel_rfl) (s := kn j) (by have := kn_size j; unfold maxLen; omega)
              have HBAD := Lib.hid (show ¬ (((bnF S M P) (kn j).data.toList).getD 0 ≠ 0 ∧ ((bnF S M P) (kn j).data.toList).getD 0 = sp (5 + j)) → namB S M sp = false from fun hh => by
                rw [HD3.out, Bool.eq_false_iff]
                intro ha
                have := List.all_eq_true.1 ha j (List.mem_range.2 hj16)
                simp only [Bool.and_eq_true, decide_eq_true_eq] at this
                exact hh this)
              have HNX := Lib.hid (fun hh : (((bnF S M P) (kn j).data.toList).getD 0 ≠ 0 ∧ ((bnF S M P) (kn j).data.toList).getD 0 = sp (5 + j)) => show ∀ i, i < j + 1 → (((bnF S M P) (kn i).data.toList).getD 0 ≠ 0 ∧ ((bnF S M P) (kn i).data.toList).getD 0 = sp (5 + i)) from fun i hi => by
                by_cases e : i = j
                · subst e; exact hh
                · exact HDJ.out i (by omega))
              clear hbx KX
              generalize ((bnF S M P) (kn j).data.toList).getD 0 = y at *
              generalize sp (5 + j) = z at *
              go_upto_region 18 with fail
              by_cases hy : y = 0
              · have HBF := Lib.hid (HBAD.out (fun hh => hh.1 hy))
                subst hy
                (refine wp_region_later (by kernel_rfl) (by kernel_rfl) ?_; (repeat (go_big_quiet_step ((fail)))); refine wpQuiet_nil ?_; intro w12 hw4; have hg := later_elim hw4; clear hw4)
                go_wp2_with fail
                go_ret
                exact ⟨by rw [HBF.out]; rfl, grown_trans HGR.out (grown_below2 (HBW.out.trans (hg.mono HBW.out.size))), fun h => by rw [HBF.out] at h; cases h⟩
              · have q1 : ((y : Int) == 0) = false := by simp; omega
                by_cases hyz : y = z
                · have HOK := Lib.hid (HNX.out ⟨hy, hyz⟩)
                  subst hyz
                  clear hy
                  (refine wp_region_later (by kernel_rfl) (by kernel_rfl) ?_; (repeat (go_big_quiet_step ((fail)))); refine wpQuiet_nil ?_; intro w12 hw4; have hg := later_elim hw4; clear hw4)
                  go_wp2_with fail
                  go_roundg (16 - (j + 1))
                  case measure => have := HGJ.out; omega
                  case rel => exact ⟨j + 1, rfl, by omega, by go_num, HBX.out.trans (hg.mono HBX.out.size), HOK.out⟩
                · have HBF := Lib.hid (HBAD.out (fun hh => hyz hh.2))
                  have q2 : ((y : Int) == (z : Int)) = false := by simp; omega
                  clear hy hyz
                  (refine wp_region_later (by kernel_rfl) (by kernel_rfl) ?_; (repeat (go_big_quiet_step ((fail)))); refine wpQuiet_nil ?_; intro w12 hw4; have hg := later_elim hw4; clear hw4)
                  go_wp2_with fail
                  go_ret
                  exact ⟨by rw [HBF.out]; rfl, grown_trans HGR.out (grown_below2 (HBW.out.trans (hg.mono HBW.out.size))), fun h => by rw [HBF.out] at h; cases h⟩
            · have hall : namB S M sp = true := by
                rw [HD3.out]
                refine List.all_eq_true.2 fun i hi => ?_
                have := HDJ.out i (by have := List.mem_range.1 hi; omega)
                simp only [Bool.and_eq_true, decide_eq_true_eq]
                exact this
              have HALL := Lib.hid hall
              have HWC := Lib.hid (show WordsAt wr cvk (clsL S M sp) by rw [HC.out]; exact words_of_owns (owns_later HROW2.out HBW.out))
              clear hbx KX hall
              go_wp2_with fail
              go_ret
              exact ⟨by rw [HALL.out]; rfl, grown_trans HGR.out (grown_below2 HBW.out), fun _ => ⟨_, HKX.out, HWC.out⟩⟩
  · have HBF := Lib.hid (show namB S M sp = false by rw [HDEF.out, decide_eq_false h2]; simp)
    have hz : (n : Int).tmod 2 = 1 := by rw [Int.tmod_eq_emod_of_nonneg (by omega)]; omega
    clear h2
    go_wp2_with fail
    go_ret
    exact ⟨by rw [HBF.out]; rfl, grown_below2 HG1.out, fun h => by rw [HBF.out] at h; cases h⟩
end
end Go.Proofs.YtibopjjicfiimaaGreatDoor
namespace Go.Proofs.YtibopjjicfiimaaGreatDoor
open Go.RowKit Go.Maps
set_option linter.unusedVariables false
/-- each class's class is one of its own -/
def pairF (S : Nat → Bool) (M : Nat → Nat) (sp : Nat → Nat) : List Nat → List Nat → Bool
  | _, [] => true
  | seen, c :: l => shB S M (clsX S M c) && ofB S M sp (clsX S M c) 7 && decide (getX S M (clsX S M c) 3 = c) && !(decide (clsX S M c ∈ seen)) && pairF S M sp (seen ++ [clsX S M c]) l
theorem pairF_cons (S : Nat → Bool) (M : Nat → Nat) (sp : Nat → Nat) (seen : List Nat) (c : Nat) (l : List Nat) : pairF S M sp seen (c :: l) = (shB S M (clsX S M c) && ofB S M sp (clsX S M c) 7 && decide (getX S M (clsX S M c) 3 = c) && !(decide (clsX S M c ∈ seen)) && pairF S M sp (seen ++ [clsX S M c]) l) := rfl
theorem set_of {w w' : World} {b n : Nat} {f g : Nat → Bool} (h : SetW w b f n) (e : ∀ y, f y = g y) : SetW w b g n := by
  obtain rfl : f = g := funext e
  exact h
section
variable {w : World} {B h N free L root : Nat} {S : Nat → Bool} {M : Nat → Nat} {sp : Nat → Nat} {cv : Value}
set_option maxRecDepth 100000 in
set_option maxHeartbeats 3200000 in
theorem paired_any (cls : List Nat) (k : Lk w B h N free S M L root sp cv) (hcv : WordsAt w cv cls) (hcl : ∀ c, c ∈ cls → c < 18446744073709551616) (hln : cls.length ≤ 6000) :
    Calls Tryz.prog 25 #[.pointer (some ⟨L, 0, none⟩)] w fun e w' => e = .returned (.bool (pairF S M sp [] cls)) ∧ Below w.heap.size w w' := by
  have K := Lib.hid k
  have HCV := Lib.hid hcv
  have HCL := Lib.hid hcl
  obtain ⟨va, vc, rfl, -⟩ := hcv.get
  have y0 : (w.alloc (.map #[] 0)).cell? ⟨L, 26, none⟩ = some (.slice va cls.length vc) := (World.cell?_alloc_past _ _ _ k.at_.lt).trans k.at_.cls
  have HM0 := Lib.hid (SetW.made w)
  have HB0 := Lib.hid (show Below w.heap.size w (w.alloc (.map #[] 0)) from (Below.refl _ w).alloc (Nat.le_refl _) _)
  have hmm := @run_makeMap Tryz.prog
  clear k hcv hcl
  go_enter Tryz.func25, Tryz.ntmps25
  go_wp2_with fail
  go_loopg [13] cls.length (fun gg s13 wr => ∃ k : Nat, gg = cls.length - k ∧ k ≤ cls.length ∧ s13 = .int .i64 (k : Int) ∧ Below w.heap.size w wr ∧ SetW wr w.heap.size (fun y => decide (y ∈ (cls.take k).map (clsX S M))) k ∧ pairF S M sp [] cls = pairF S M sp ((cls.take k).map (clsX S M)) (cls.drop k))
  case atStart => exact ⟨0, rfl, by omega, rfl, HB0.out, set_of (w' := w) HM0.out (fun y => by simp), rfl⟩
  case round =>
    obtain ⟨k, hgk, hk, rfl, hbr, hset, hpf⟩ := hrel
    have HGK := Lib.hid hgk; have HBR := Lib.hid hbr; have HSET := Lib.hid hset; have HPF := Lib.hid hpf
    clear hgk hset hpf
    by_cases hlt : k < cls.length
    · obtain ⟨va', vc', hue, -, -, hcu⟩ := (HCV.out.later hbr).get
      simp only [Value.slice.injEq, true_and] at hue
      obtain ⟨rfl, rfl⟩ := hue
      obtain ⟨xb, xo, rfl, hxl, hxc⟩ := hcu k hlt
      have hc := HCL.out _ (List.getElem_mem hlt)
      have hd := List.drop_eq_getElem_cons hlt
      have ht : (cls.take (k + 1)).map (clsX S M) = (cls.take k).map (clsX S M) ++ [clsX S M cls[k]] := by rw [List.take_succ_eq_append_getElem hlt, List.map_append]; rfl
      obtain ⟨c, hce⟩ : ∃ c, cls[k] = c := ⟨_, rfl⟩
      rw [hce] at hxc hc hd ht
      have hpf := HPF.out
      rw [hd, pairF_cons] at hpf
      have HPF2 := Lib.hid hpf; have HT := Lib.hid ht
      have MT := Lib.hid (meta_any c (K.out.later hbr) hc)
      have hm := clsX_lt K.out.c c
      obtain ⟨m, hme⟩ : ∃ m, clsX S M c = m := ⟨_, rfl⟩
      rw [hme] at MT hm HPF2 HT
      clear hbr hcu hce hd ht hpf hme
      go_wp2_with fail
      refine MT.out.mono ?_
      rintro e w1 ⟨rfl, hg1⟩
      have HB1 := Lib.hid (HBR.out.trans (hg1.mono HBR.out.size)); have HS1 := Lib.hid (HSET.out.later hg1)
      have SH := Lib.hid (shaped_any m (K.out.later HB1.out) hm)
      clear hg1 MT hxc
      cases b1 : shB S M m with
      | false =>
        rw [b1] at SH
        have HF := Lib.hid (show pairF S M sp [] cls = false by rw [HPF2.out, b1]; rfl)
        clear b1
        go_wp2_with fail
        refine SH.out.mono ?_
        rintro e w2 ⟨rfl, hg2⟩
        have HB2 := Lib.hid (HB1.out.trans (hg2.mono HB1.out.size)); clear hg2
        go_wp2_with fail
        go_ret
        exact ⟨by rw [HF.out]; rfl, HB2.out⟩
      | true =>
        rw [b1] at SH
        go_wp2_with fail
        refine SH.out.mono ?_
        rintro e w2 ⟨rfl, hg2⟩
        have HB2 := Lib.hid (HB1.out.trans (hg2.mono HB1.out.size)); have HS2 := Lib.hid (HS1.out.later hg2)
        have OF := Lib.hid (of_any m 7 (K.out.later HB2.out) hm (by omega))
        clear hg2 SH
        cases b2 : ofB S M sp m 7 with
        | false =>
          rw [b2] at OF
          have HF := Lib.hid (show pairF S M sp [] cls = false by rw [HPF2.out, b1, b2]; rfl)
          clear b1 b2
          go_wp2_with fail
          refine OF.out.mono ?_
          rintro e w3 ⟨rfl, hg3⟩
          have HB3 := Lib.hid (HB2.out.trans (hg3.mono HB2.out.size)); clear hg3
          go_wp2_with fail
          go_ret
          exact ⟨by rw [HF.out]; rfl, HB3.out⟩
        | true =>
          rw [b2] at OF
          go_wp2_with fail
          refine OF.out.mono ?_
          rintro e w3 ⟨rfl, hg3⟩
          have HB3 := Lib.hid (HB2.out.trans (hg3.mono HB2.out.size)); have HS3 := Lib.hid (HS2.out.later hg3)
          have PA := Lib.hid (part_any m 3 (K.out.later HB3.out) hm (by omega))
          clear hg3 OF
          by_cases b3 : getX S M m 3 = c
          · rw [b3] at PA
            go_wp2_with fail
            refine PA.out.mono ?_
            rintro e w4 ⟨rfl, hg4⟩
            have HB4 := Lib.hid (HB3.out.trans (hg4.mono HB3.out.size)); have HS4 := Lib.hid (HS3.out.later hg4)
            clear hg4 PA
            have lk := HS4.out.look hm
            cases b4 : decide (m ∈ (cls.take k).map (clsX S M)) with
            | true =>
              simp only [b4] at lk
              have HF := Lib.hid (show pairF S M sp [] cls = false by rw [HPF2.out, b1, b2, decide_eq_true b3, b4]; rfl)
              clear b1 b2 b3 b4
              go_wp2_with fail
              go_ret
              exact ⟨by rw [HF.out]; rfl, HB4.out⟩
            | false =>
              simp only [b4] at lk
              have HPF3 := Lib.hid (show pairF S M sp [] cls = pairF S M sp ((cls.take (k + 1)).map (clsX S M)) (cls.drop (k + 1)) by rw [HPF2.out, b1, b2, decide_eq_true b3, b4, HT.out]; rfl)
              obtain ⟨w5, hrun, hset5, hgr5⟩ := HS4.out.store hm (by omega)
              have HB5 := Lib.hid (show Below w.heap.size w w5 from HB4.out.grown hgr5 HB4.out.size (fun q hq => by injection hq with hq; omega))
              have HS5 := Lib.hid (set_of (w' := w) hset5 (g := fun y => decide (y ∈ (cls.take (k + 1)).map (clsX S M))) (fun y => by
                rw [HT.out, Bool.eq_iff_iff]
                simp only [Bool.or_eq_true, decide_eq_true_eq, List.mem_append, List.mem_singleton]
                exact Or.comm))
              clear b1 b2 b3 b4 hset5 hgr5
              go_wp2_with fail
              go_roundg (cls.length - (k + 1))
              case measure => rw [HGK.out]; omega
              case rel => exact ⟨k + 1, rfl, by omega, by go_num, HB5.out, HS5.out, HPF3.out⟩
          · have HF := Lib.hid (show pairF S M sp [] cls = false by rw [HPF2.out, b1, b2, decide_eq_false b3]; rfl)
            have q3 : ((getX S M m 3 : Int) != (c : Int)) = true := by simp; omega
            clear b1 b2
            go_wp2_with fail
            refine PA.out.mono ?_
            rintro e w4 ⟨rfl, hg4⟩
            have HB4 := Lib.hid (HB3.out.trans (hg4.mono HB3.out.size)); clear hg4
            go_wp2_with fail
            go_ret
            exact ⟨by rw [HF.out]; rfl, HB4.out⟩
    · obtain rfl : k = cls.length := by omega
      have HF := Lib.hid (show pairF S M sp [] cls = true by rw [HPF.out, List.drop_eq_nil_of_le (Nat.le_refl _)]; cases (cls.take cls.length).map (clsX S M) <;> rfl)
      clear hbr
      go_wp2_with fail
      go_ret
      exact ⟨by rw [HF.out]; rfl, HBR.out⟩
end
end Go.Proofs.YtibopjjicfiimaaGreatDoor
namespace Go.Proofs.YtibopjjicfiimaaGreatDoor
open Go.RowKit Go.Maps
set_option linter.unusedVariables false
/-- how many objects below k are such -/
def cntO (S : Nat → Bool) (p : Nat → Bool) : Nat → Nat
  | 0 => 0
  | k + 1 => cntO S p k + if S k = true ∧ p (k * 2) = true then 1 else 0
theorem cntO_gap {S : Nat → Bool} {p : Nat → Bool} {i : Nat} : ∀ d, (∀ j, i ≤ j → j < i + d → S j = false) → cntO S p (i + d) = cntO S p i
  | 0, _ => rfl
  | d + 1, h => by
    show cntO S p (i + d) + _ = _
    rw [if_neg (fun hh => by have := h (i + d) (by omega) (by omega); exact Bool.noConfusion (show false = true from this.symm.trans hh.1)), cntO_gap d (fun j h1 h2 => h j h1 (by omega))]; rfl
theorem cntO_from {S : Nat → Bool} {p : Nat → Bool} {N i x : Nat} (hi : i ≤ N) (h : IsFrom N S (i : Int) x) : (x = 0 ∧ cntO S p N = cntO S p i) ∨ ∃ k, x = k * 2 ∧ k < N ∧ i ≤ k ∧ S k = true ∧ cntO S p k = cntO S p i := by
  rcases h with ⟨h, hno⟩ | ⟨k, h1, h2, h4, h3, hno⟩
  · refine Or.inl ⟨h, ?_⟩
    have := cntO_gap (S := S) (p := p) (i := i) (N - i) (fun j a b => hno j (by omega) (by omega))
    rwa [show i + (N - i) = N by omega] at this
  · refine Or.inr ⟨k, h1, h2, by omega, h3, ?_⟩
    have := cntO_gap (S := S) (p := p) (i := i) (k - i) (fun j a b => hno j (by omega) (by omega))
    rwa [show i + (k - i) = k by omega] at this
theorem cntO_le (S : Nat → Bool) (p : Nat → Bool) : ∀ k, cntO S p k ≤ k
  | 0 => Nat.le_refl _
  | k + 1 => by
    have := cntO_le S p k
    show cntO S p k + (if S k = true ∧ p (k * 2) = true then 1 else 0) ≤ k + 1
    split <;> omega
def intB (S : Nat → Bool) (M : Nat → Nat) (sp : Nat → Nat) (N : Nat) : Bool :=
  risF S M sp none (nthL 1 (wrdX S M (sp 4))) && decide (cntO S (fun x => ofB S M sp x 13) N = (wrdX S M (sp 4)).length)
theorem intB_def (S : Nat → Bool) (M : Nat → Nat) (sp : Nat → Nat) (N : Nat) : intB S M sp N = (risF S M sp none (nthL 1 (wrdX S M (sp 4))) && decide (cntO S (fun x => ofB S M sp x 13) N = (wrdX S M (sp 4)).length)) := rfl
section
variable {w : World} {B h N free L root : Nat} {S : Nat → Bool} {M : Nat → Nat} {sp : Nat → Nat} {cv : Value}
set_option maxRecDepth 100000 in
set_option maxHeartbeats 3200000 in
theorem interned_any (k : Lk w B h N free S M L root sp cv) :
    Calls Tryz.prog 27 #[.pointer (some ⟨L, 0, none⟩)] w fun e w' => e = .returned (.bool (intB S M sp N)) ∧ Below w.heap.size w w' := by
  have WD := Lib.hid (wrds_any (sp 4) k (k.hsp 4 (by omega)))
  have y0 : w.cell? ⟨L, 6, none⟩ = some (.int .u64 (sp 4 : Int)) := k.at_.word (i := 4) (by omega)
  have K := Lib.hid k
  have HWS := Lib.hid (fun y (hy : y ∈ wrdX S M (sp 4)) => wrdX_lt k hy)
  have HDEF := Lib.hid (intB_def S M sp N)
  have hlen := wrdX_len_le k (sp 4)
  have hN := k.n
  clear k
  go_enter Tryz.func27, Tryz.ntmps27
  go_wp2_with fail
  refine WD.out.mono ?_
  rintro e w1 ⟨v, rfl, hwa, hup, hg1⟩
  have HG1 := Lib.hid hg1
  obtain ⟨va, vc, rfl, -⟩ := id hwa
  have RI := Lib.hid (rising_any _ _ 1 (K.out.later hg1) hwa HWS.out (by omega) (by omega) (by omega))
  clear hwa WD y0 hg1 hup
  generalize wrdX S M (sp 4) = ws at *
  cases hr : risF S M sp none (nthL 1 ws) with
  | false =>
    rw [hr] at RI
    have HF := Lib.hid (show intB S M sp N = false by rw [HDEF.out, hr]; rfl)
    clear hr
    go_wp2_with fail
    refine RI.out.mono ?_
    rintro e w2 ⟨rfl, hg2⟩
    have HG2 := Lib.hid (HG1.out.trans (hg2.mono HG1.out.size)); clear hg2
    go_wp2_with fail
    go_ret
    exact ⟨by rw [HF.out]; rfl, HG2.out⟩
  | true =>
    rw [hr] at RI
    have HDEF2 := Lib.hid (show intB S M sp N = decide (cntO S (fun x => ofB S M sp x 13) N = ws.length) by rw [HDEF.out, hr]; rfl)
    clear hr
    go_wp2_with fail
    refine RI.out.mono ?_
    rintro e w2 ⟨rfl, hg2⟩
    have HG2 := Lib.hid (HG1.out.trans (hg2.mono HG1.out.size))
    have kr := K.out.later HG2.out
    have y0 := kr.at_.heap
    have FI := Lib.hid kr.first
    clear kr hg2
    go_wp2_with fail
    refine FI.out.mono ?_
    rintro e w3 ⟨x0, rfl, hx0, hg3⟩
    have HX0 := Lib.hid (cntO_from (p := fun x => ofB S M sp x 13) (Nat.zero_le N) hx0); have HG3 := Lib.hid (HG2.out.trans (hg3.mono HG2.out.size))
    clear hx0 hg3 FI y0
    go_wp2_with fail
    go_loopg [4, 5] (N + 1) (fun gg s4 s5 wr => ∃ n x : Nat, s4 = .int .i64 (n : Int) ∧ s5 = .int .u64 (x : Int) ∧ Below w.heap.size w wr ∧ ((x = 0 ∧ n = cntO S (fun x => ofB S M sp x 13) N) ∨ ∃ k : Nat, x = k * 2 ∧ k < N ∧ S k = true ∧ N - k ≤ gg ∧ n = cntO S (fun x => ofB S M sp x 13) k))
    case atStart =>
      refine ⟨0, x0, rfl, rfl, HG3.out, ?_⟩
      rcases HX0.out with ⟨h1, h2⟩ | ⟨k, h1, h2, -, h3, h4⟩
      · exact Or.inl ⟨h1, h2.symm⟩
      · exact Or.inr ⟨k, h1, h2, h3, by omega, h4.symm⟩
    case round =>
      obtain ⟨n, x, rfl, rfl, hbr, hx⟩ := hrel
      have HBR := Lib.hid hbr
      rcases hx with ⟨rfl, hall⟩ | ⟨k, rfl, hk, hkS, hgk, hn⟩
      · have HF := Lib.hid (show intB S M sp N = decide (n = ws.length) by rw [HDEF2.out, hall])
        have hnN : n ≤ N := by rw [hall]; exact cntO_le _ _ _
        clear hbr hall
        go_wp2_with fail
        go_ret
        exact ⟨by rw [HF.out]; simp [u64_eq_iff], HBR.out⟩
      · have HGK := Lib.hid hgk; have HKS := Lib.hid hkS
        have hnN : n ≤ N := by rw [hn]; have := cntO_le S (fun x => ofB S M sp x 13) k; omega
        have kr := K.out.later hbr
        obtain ⟨hp, -, hk0, hk1⟩ := K.out.ptr hkS
        have OF := Lib.hid (of_any (k * 2) 13 kr (by omega) (by omega))
        have HST := Lib.hid (show cntO S (fun x => ofB S M sp x 13) (k + 1) = n + if ofB S M sp (k * 2) 13 = true then 1 else 0 from by
          show cntO S _ k + _ = _
          rw [← hn]
          congr 1
          by_cases ho : ofB S M sp (k * 2) 13 = true
          · rw [if_pos ho, if_pos ⟨hkS, ho⟩]
          · rw [if_neg ho, if_neg (fun hh => ho hh.2)])
        have HNX := Lib.hid (fun x' (hf : IsFrom N S (k + 1 : Int) x') => cntO_from (N := N) (S := S) (x := x') (p := fun x => ofB S M sp x 13) (i := k + 1) hk (by rw [show ((k + 1 : Nat) : Int) = (k : Int) + 1 by omega]; exact hf))
        obtain ⟨xk, hxk⟩ : ∃ xk, k * 2 = xk := ⟨_, rfl⟩
        have HXK := Lib.hid hxk
        rw [hxk] at OF HST ⊢
        have hx0 : xk ≠ 0 := by omega
        clear hbr hgk hkS hn hp kr hxk
        generalize ofB S M sp xk 13 = ob at *
        go_wp2_with fail
        refine OF.out.mono ?_
        rintro e w4 ⟨rfl, hg4⟩
        have HB4 := Lib.hid (HBR.out.trans (hg4.mono HBR.out.size))
        have K4 := K.out.later HB4.out
        have y0 := K4.at_.heap
        have AF := K4.after HKS.out
        rw [HXK.out] at AF
        have AFH := Lib.hid AF
        clear hg4 OF K4 AF
        cases ob with
        | true =>
          go_wp2_with fail
          refine AFH.out.mono ?_
          rintro e w5 ⟨x', rfl, hf, hg5⟩
          have HF := Lib.hid (HNX.out x' hf)
          have HB5 := Lib.hid (HB4.out.trans (hg5.mono HB4.out.size))
          have HN1 := Lib.hid (show cntO S (fun x => ofB S M sp x 13) (k + 1) = n + 1 from HST.out)
          clear hf hg5 y0
          go_wp2_with fail
          rcases HF.out with ⟨rfl, hall⟩ | ⟨k', rfl, h1, h2, h3, h4⟩
          · have HALL := Lib.hid (hall.trans HN1.out)
            go_roundg 0
            case measure => have := HGK.out; omega
            case rel => exact ⟨n + 1, 0, by go_num, rfl, HB5.out, Or.inl ⟨rfl, HALL.out.symm⟩⟩
          · have H3 := Lib.hid h3; have H4 := Lib.hid (h4.trans HN1.out)
            go_roundg (N - k')
            case measure => have := HGK.out; omega
            case rel => exact ⟨n + 1, k' * 2, by go_num, rfl, HB5.out, Or.inr ⟨k', rfl, h1, H3.out, Nat.le_refl _, H4.out.symm⟩⟩
        | false =>
          go_wp2_with fail
          refine AFH.out.mono ?_
          rintro e w5 ⟨x', rfl, hf, hg5⟩
          have HF := Lib.hid (HNX.out x' hf)
          have HB5 := Lib.hid (HB4.out.trans (hg5.mono HB4.out.size))
          have HN1 := Lib.hid (show cntO S (fun x => ofB S M sp x 13) (k + 1) = n from HST.out)
          clear hf hg5 y0
          go_wp2_with fail
          rcases HF.out with ⟨rfl, hall⟩ | ⟨k', rfl, h1, h2, h3, h4⟩
          · have HALL := Lib.hid (hall.trans HN1.out)
            go_roundg 0
            case measure => have := HGK.out; omega
            case rel => exact ⟨n, 0, rfl, rfl, HB5.out, Or.inl ⟨rfl, HALL.out.symm⟩⟩
          · have H3 := Lib.hid h3; have H4 := Lib.hid (h4.trans HN1.out)
            go_roundg (N - k')
            case measure => have := HGK.out; omega
            case rel => exact ⟨n, k' * 2, rfl, rfl, HB5.out, Or.inr ⟨k', rfl, h1, H3.out, Nat.le_refl _, H4.out.symm⟩⟩
end
end Go.Proofs.YtibopjjicfiimaaGreatDoor
