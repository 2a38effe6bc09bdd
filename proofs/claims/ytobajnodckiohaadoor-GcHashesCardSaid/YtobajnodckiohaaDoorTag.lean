/- An object gets a number of its own. -/
import Derived.Test.YtobajnodckiohaaDoorLoadB
namespace Go.Proofs.YtobajnodckiohaaDoor
open Go.RowKit
set_option linter.unusedVariables false
theorem Stays.setL {h : Nat} {w : World} {v : Value} : Stays h w (w.setCell ⟨h, 3, none⟩ v) := by
  refine ⟨by simp [World.setCell], fun C hl => ?_⟩
  obtain ⟨g', s, r, n, n', m, c, x1, x3, y0, cg, h1, h2, h3, h4, h5, h6, h7⟩ := hl
  have n1 : g' ≠ h := fun e => by subst e; rw [h1] at h3; simp at h3
  have n2 : s ≠ h := fun e => by subst e; rw [h1] at h2; simp at h2
  exact ⟨⟨g', s, r, n, n', m, c, x1, v, y0, _, heap_setCell_same w h 3 _ _ _ h1, (Below.heap_setCell _ _ _ _ n2).trans h2, (Below.heap_setCell _ _ _ _ n1).trans h3, h4, h5, h6, h7⟩, fun q hq _ => Below.heap_setCell _ _ _ _ (by show q ≠ h; omega)⟩
/-- an object's second word, with another number -/
def tagI (i n : Nat) : Nat := (packZ (hK i) (hS i) n (hM i)).toNat
theorem tag_parts {a i n : Nat} (hU : UnOK a i) (hi : i < 18446744073709551616) (hn : n < 16777216) :
    ((tagI i n : Nat) : Int) = packZ (hK i) (hS i) n (hM i) ∧ tagI i n < 18446744073709551616 ∧ hK (tagI i n) = hK i ∧ hS (tagI i n) = hS i ∧ hH (tagI i n) = n ∧ UnOK a (tagI i n) := by
  obtain ⟨u1, u2, u3, u4, u5⟩ := hU
  have k0 : 0 ≤ hK i := by unfold hK; omega
  have s0 : 0 ≤ hS i := by unfold hS; omega
  have e0 : 0 ≤ packZ (hK i) (hS i) n (hM i) := by unfold packZ; split <;> omega
  have e1 : ((tagI i n : Nat) : Int) = packZ (hK i) (hS i) n (hM i) := by unfold tagI; omega
  have e2 : tagI i n < 18446744073709551616 := by
    have : packZ (hK i) (hS i) n (hM i) < 18446744073709551616 := by unfold packZ; split <;> omega
    omega
  refine ⟨e1, e2, ?_, ?_, ?_, u1, u2, ?_, ?_, ?_⟩
  all_goals
    rw [e1]
    generalize hK i = k at *
    generalize hS i = s at *
    generalize hM i = m at *
    clear e1 e2 e0
    unfold packZ
    first | unfold hK | unfold hS | unfold hH | skip
    cases m <;> simp <;> omega
set_option maxRecDepth 100000 in
theorem tagfn_any (x n v : Nat) (c k s hh m : Value) (w : World) (hx : w.heap[x]? = some (.cells #[c, k, s, hh, m] 52 (0, 0))) (hn : w.heap[n]? = some (.cells #[.int .u32 (v : Int)] 29 (0, 0))) :
    Calls Tryd.prog 22 #[.pointer (some ⟨x, 0, none⟩), .pointer (some ⟨n, 0, none⟩)] w fun e w' => e = .returned (.tuple #[]) ∧ w' = w.setCell ⟨x, 3, none⟩ (.int .u32 (v : Int)) := by
  have c0 : w.cell? ⟨n, 0, none⟩ = some (.int .u32 (v : Int)) := (cellO hn 0).trans rfl
  have x3 : w.cell? ⟨x, 3, none⟩ = some hh := (cellO hx 3).trans rfl
  have fz : w.frozen? ⟨x, 3, none⟩ = false := by unfold World.frozen?; rw [hx]; rfl
  clear hx hn
  go_enter Tryd.func22, Tryd.ntmps22
  go_wp2_with fail
  go_end0
  exact ⟨rfl, rfl⟩
set_option maxRecDepth 100000 in
set_option maxHeartbeats 1000000 in
theorem change_tag (B h N free a n b : Nat) (S : Nat → Bool) (M : Nat → Nat) (w : World) (H : HeapAt w B h N free S M) (hB : B ≤ w.heap.size) (a0 : 1 ≤ a) (ha : a + 2 ≤ N) (hS' : S a = true) (hU : UnOK (M a) (M (a + 1))) (hn : n < 16777216)
    (hb : w.heap[b]? = some (.cells #[.int .u32 (n : Int)] 29 (0, 0))) :
    Calls Tryd.prog 21 #[.pointer (some ⟨h, 0, none⟩), .int .u64 (a * 2 : Int), .func (.func 22) #[] #[.pointer (some ⟨b, 0, none⟩)]] w fun e w' => e = .returned (.int .i64 0) ∧ HeapAt w' B h N free S (put2 M a (M a) (tagI (M (a + 1)) n)) ∧ Below B w w' ∧ Stays h w w' := by
  obtain ⟨hN, hsm⟩ : N ≤ 16777216 ∧ ∀ i, M i < 18446744073709551616 := by obtain ⟨g, s, -, -, h3, -, -, -, -, h7, -⟩ := H; exact ⟨h3, h7⟩
  have m0 := hsm a
  have m1 := hsm (a + 1)
  obtain ⟨t1, t2, -, -, -, -⟩ := tag_parts (n := n) hU m1 hn
  have A := Lib.hid (hat_yes B h N free a S M w H a0 (by omega))
  rw [hS'] at A
  have HD := Lib.hid (fun W (hW : Below w.heap.size w W) => hhead_yes B h N free a S M W (H.later hW) ha hU)
  have PK := Lib.hid (fun W => pack_yes (M a : Int) (hK (M (a + 1))) (hS (M (a + 1))) (n : Int) (hM (M (a + 1))) (by omega) (by omega) (by omega) (checkZ_ok.2 (by
    obtain ⟨u1, u2, u3, u4, u5⟩ := hU
    exact ⟨u1, u2, by unfold Go.Proofs.YtobajnodckiohaaDoor.hS; omega, u3, by omega, by unfold hK; omega, u4⟩)) W)
  rw [← t1] at PK
  have PT := Lib.hid (fun W (hW : Below w.heap.size w W) => put_only B h N free a (M a) (tagI (M (a + 1)) n) S M W (H.later hW) (Nat.le_trans hB hW.size) ha m0 t2)
  have HB := Lib.hid hb
  have hbl := (Array.getElem?_eq_some_iff.1 hb).1
  clear H hU t1 t2 hsm hb hS'
  generalize hK (M (a + 1)) = vk at *
  generalize hS (M (a + 1)) = vs at *
  generalize hH (M (a + 1)) = vh at *
  generalize hM (M (a + 1)) = vm at *
  generalize tagI (M (a + 1)) n = ti at *
  go_enter Tryd.func21, Tryd.ntmps21
  go_wp2_with fail
  refine A.out.mono ?_
  rintro e w1 ⟨rfl, hg1⟩
  have G1 := Lib.hid hg1
  clear hg1
  go_wp2_with fail
  refine (HD.out w1 G1.out).mono ?_
  rintro e w2 ⟨rfl, hg2⟩
  have G2 := Lib.hid (G1.out.trans (hg2.mono G1.out.size))
  clear hg2
  go_wp2_with fail
  obtain ⟨w3, hw3⟩ : ∃ y, y = w2.alloc (.cells #[.int .u64 (M a : Int), .int .i64 vk, .int .i64 vs, .int .u32 vh, .bool vm] 52) := ⟨_, rfl⟩
  have hx3 : w3.heap[w2.heap.size]? = some (.cells #[.int .u64 (M a : Int), .int .i64 vk, .int .i64 vs, .int .u32 vh, .bool vm] 52 (0, 0)) := by rw [hw3]; exact heap_alloc_new w2 _
  have G3 := Lib.hid (show Below w.heap.size w w3 by rw [hw3]; exact G2.out.alloc G2.out.size _)
  have hz2 := G2.out.size
  rw [← hw3]
  clear hw3
  generalize w2.heap.size = x at *
  refine (tagfn_any x b n _ _ _ _ _ w3 hx3 ((G3.out.block b hbl).trans HB.out)).mono ?_
  rintro e w4 ⟨rfl, hw4⟩
  have hx4 : w4.heap[x]? = some (.cells #[.int .u64 (M a : Int), .int .i64 vk, .int .i64 vs, .int .u32 (n : Int), .bool vm] 52 (0, 0)) := by rw [hw4, heap_setCell_same _ _ _ _ _ _ hx3]; rfl
  have G4 := Lib.hid (show Below w.heap.size w w4 by rw [hw4]; exact G3.out.setCell (p := ⟨x, 3, none⟩) hz2 _)
  clear hw4 hx3
  have v0 := cellO hx4 0
  have v1 := cellO hx4 1
  have v2 := cellO hx4 2
  have v3 := cellO hx4 3
  have v4 := cellO hx4 4
  simp at v0 v1 v2 v3 v4
  have hxl := lt_of_cell v0
  clear hx4
  go_wp2_with fail
  refine (PK.out w4).mono ?_
  rintro e w5 ⟨rfl, hg5⟩
  have G5 := Lib.hid (G4.out.trans (hg5.mono G4.out.size))
  clear hg5 v0 v1 v2 v3 v4 hxl
  go_wp2_with fail
  obtain ⟨w6, hw6⟩ : ∃ y, y = w5.alloc (.cells #[.int .u64 (M a : Int), .int .u64 (ti : Int)] 95) := ⟨_, rfl⟩
  have G6 := Lib.hid (show Below w.heap.size w w6 by rw [hw6]; exact G5.out.alloc G5.out.size _)
  rw [← hw6]
  refine (PT.out w6 G6.out).mono ?_
  rintro e w7 ⟨rfl, h7, g7, s7⟩
  have HH7 := Lib.hid h7
  have GG7 := Lib.hid ((G6.out.mono hB).trans g7)
  have SS7 := Lib.hid ((Stays.below G6.out).trans s7)
  clear hw6 h7 g7 s7
  go_wp2_with fail
  go_ret
  exact ⟨rfl, HH7.out, GG7.out, SS7.out⟩
/-- what memory is behind Tag -/
def tagM (M : Nat → Nat) (a : Nat) : Nat → Nat := if hH (M (a + 1)) = 0 then put2 (lastM M (M 16777216 + 1)) a (M a) (tagI (M (a + 1)) (M 16777216 + 1)) else M
set_option maxRecDepth 100000 in
set_option maxHeartbeats 1000000 in
theorem tag_any (B h N free a : Nat) (S : Nat → Bool) (M : Nat → Nat) (w : World) (H : HeapAt w B h N free S M) (hB : B ≤ w.heap.size) (a0 : 1 ≤ a) (ha : a + 2 ≤ N) (hS' : S a = true) (hU : UnOK (M a) (M (a + 1))) (hL : M 16777216 < 16000000) :
    Calls Tryd.prog 6 #[.pointer (some ⟨h, 0, none⟩), .int .u64 (a * 2 : Int)] w fun e w' => ∃ x : Int, e = .returned (.tuple #[.int .u32 x, .int .i64 0]) ∧ HeapAt w' B h N free S (tagM M a) ∧ Below B w w' ∧ Stays h w w' := by
  obtain ⟨hN, hsm⟩ : N ≤ 16777216 ∧ ∀ i, M i < 18446744073709551616 := by obtain ⟨g, s, -, -, h3, -, -, -, -, h7, -⟩ := H; exact ⟨h3, h7⟩
  have HD := Lib.hid (hHead_yes B h N free a S M w H a0 ha hS' hU)
  have HH := Lib.hid H
  have hlt := H.lt
  have HLT := Lib.hid hlt
  have hhl : h < w.heap.size := H.lastN.2.2.1
  have hhb := hH_bd (hsm (a + 1))
  have e1 : lastM M (M 16777216 + 1) a = M a := lastM_cell (by omega)
  have e2 : lastM M (M 16777216 + 1) (a + 1) = M (a + 1) := lastM_cell (by omega)
  have CH := Lib.hid (fun (b : Nat) (W : World) (hW : HeapAt W B h N free S (lastM M (M 16777216 + 1))) (hBW : B ≤ W.heap.size) hb => change_tag B h N free a (M 16777216 + 1) b S (lastM M (M 16777216 + 1)) W hW hBW a0 ha hS' (by rw [e1, e2]; exact hU) (by omega) hb)
  rw [e1, e2] at CH
  have TM := Lib.hid (show tagM M a = if hH (M (a + 1)) = 0 then put2 (lastM M (M 16777216 + 1)) a (M a) (tagI (M (a + 1)) (M 16777216 + 1)) else M from rfl)
  clear H hU hlt e1 e2 hsm
  generalize hK (M (a + 1)) = vk at *
  generalize hS (M (a + 1)) = vs at *
  generalize hH (M (a + 1)) = vh at *
  generalize hM (M (a + 1)) = vm at *
  generalize tagI (M (a + 1)) (M 16777216 + 1) = ti at *
  have LN := Lib.hid (fun (W : World) (hW : Below w.heap.size w W) => (HH.out.later hW).lastN)
  generalize M 16777216 = L at *
  go_enter Tryd.func6, Tryd.ntmps6
  go_wp2_with fail
  refine HD.out.mono ?_
  rintro e w1 ⟨rfl, hg1⟩
  have G1 := Lib.hid hg1
  have hz1 := hg1.size
  clear hg1
  by_cases hv : vh = 0
  · subst hv
    obtain ⟨w2, hw2⟩ : ∃ y, y = w1.alloc (.cells #[.int .u64 (M a : Int), .int .i64 vk, .int .i64 vs, .int .u32 0, .bool vm] 52) := ⟨_, rfl⟩
    have G2 := Lib.hid (show Below w.heap.size w w2 by rw [hw2]; exact G1.out.alloc hz1 _)
    have H2 := Lib.hid (HH.out.later G2.out)
    obtain ⟨c3, fz3, hl3, hBh, -⟩ := LN.out w2 G2.out
    go_upto_region 4 with fail
    rw [← hw2]
    have hx2 : w2.heap[w1.heap.size]? = some (.cells #[.int .u64 (M a : Int), .int .i64 vk, .int .i64 vs, .int .u32 0, .bool vm] 52 (0, 0)) := by rw [hw2]; exact heap_alloc_new w1 _
    have v3 := cellO hx2 3
    simp at v3
    have hxl := lt_of_cell v3
    clear hw2 hx2
    go_upto_region 7 with fail
    obtain ⟨w3, hw3⟩ : ∃ y, y = w2.alloc (.cells #[.int .u32 ((L : Int) + 1)] 29) := ⟨_, rfl⟩
    have hz2 := G2.out.size
    have hn3 : w3.heap[w2.heap.size]? = some (.cells #[.int .u32 (((L + 1 : Nat) : Int))] 29 (0, 0)) := by rw [hw3]; push_cast; exact heap_alloc_new w2 _
    have G3 := Lib.hid (show Below w.heap.size w w3 by rw [hw3]; exact G2.out.alloc hz2 _)
    rw [← hw3]
    clear hw3 c3 fz3 hl3 v3 hxl
    generalize w2.heap.size = b at *
    obtain ⟨c3, fz3, hl3, -, hset⟩ := LN.out w3 G3.out
    have hn0 := cellO hn3 0
    simp at hn0
    have hbl := lt_of_cell hn0
    have H4 := Lib.hid (hset (L + 1) (by omega))
    have hbh : b ≠ h := by omega
    have hn4 := Lib.hid (show (w3.setCell ⟨h, 3, none⟩ (.int .u32 ((L + 1 : Nat) : Int))).heap[b]? = _ from (Below.heap_setCell _ _ _ _ hbh).trans hn3)
    have S4 := Lib.hid ((Stays.below (h := h) G3.out).trans (Stays.setL (w := w3) (v := .int .u32 ((L + 1 : Nat) : Int))))
    have B4 := Lib.hid ((G3.out.mono hB).setCell (p := ⟨h, 3, none⟩) hBh (.int .u32 ((L + 1 : Nat) : Int)))
    clear hset hn3
    have hcast : ((L + 1 : Nat) : Int) = (L : Int) + 1 := by omega
    rw [hcast] at H4 hn4 S4 B4
    clear hcast
    have q1 : decide ((16777216 : Int) ≤ (L : Int) + 1) = false := decide_eq_false (by omega)
    have q2 : ¬ (16777216 : Int) ≤ (L : Int) + 1 := by omega
    go_upto_region 9 with fail
    clear q1 q2
    go_upto_region 10 with fail
    generalize w3.setCell ⟨h, 3, none⟩ (.int .u32 ((L : Int) + 1)) = w4 at *
    have hz4 := S4.out.1
    clear c3 fz3 hl3 hn0
    go_wp2_with fail
    refine (CH.out b w4 H4.out (Nat.le_trans hB hz4) (by rw [show ((L + 1 : Nat) : Int) = (L : Int) + 1 by omega]; exact hn4.out)).mono ?_
    rintro e w5 ⟨rfl, h5, g5, s5⟩
    have hb4 := (Array.getElem?_eq_some_iff.1 hn4.out).1
    have hn5 := (s5.2 w.heap.size (S4.out.2 w.heap.size HLT.out).1).2 b (by omega) hb4
    have hn50 := cellO (hn5.trans hn4.out) 0
    simp at hn50
    have hbl5 := lt_of_cell hn50
    have H5 := Lib.hid h5; have G5 := Lib.hid (B4.out.trans g5); have S5 := Lib.hid (S4.out.trans s5)
    clear h5 g5 s5 hn5
    go_wp2_with fail
    exact bodyPost_ret (results_tmp2 Tryd.results6 _ _ _) rfl ⟨_, rfl, by rw [TM.out, if_pos trivial]; exact H5.out, G5.out, S5.out⟩
  · have o1 : (vh == 0) = false := by simpa using hv
    have o2 : (vh != 0) = true := by simpa using hv
    obtain ⟨w2, hw2⟩ : ∃ y, y = w1.alloc (.cells #[.int .u64 (M a : Int), .int .i64 vk, .int .i64 vs, .int .u32 vh, .bool vm] 52) := ⟨_, rfl⟩
    have G2 := Lib.hid (show Below w.heap.size w w2 by rw [hw2]; exact G1.out.alloc hz1 _)
    go_upto_region 4 with fail
    rw [← hw2]
    have hx2 : w2.heap[w1.heap.size]? = some (.cells #[.int .u64 (M a : Int), .int .i64 vk, .int .i64 vs, .int .u32 vh, .bool vm] 52 (0, 0)) := by rw [hw2]; exact heap_alloc_new w1 _
    have v3 := cellO hx2 3
    simp at v3
    have hxl := lt_of_cell v3
    have HV := Lib.hid hv
    clear hw2 hx2 hv
    go_wp2_with fail
    exact bodyPost_ret (results_tmp2 Tryd.results6 _ _ _) rfl ⟨_, rfl, by rw [TM.out, if_neg HV.out]; exact HH.out.later G2.out, G2.out.mono hB, Stays.below G2.out⟩
end Go.Proofs.YtobajnodckiohaaDoor
