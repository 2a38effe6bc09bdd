/- The law's Turn: some cells of the document's objects become other ones. -/
import Derived.Test.YtibopjjicfiimaaGreatDoorTownI
import Derived.Deep.CutRange
import Derived.BigRegion
import Derived.Lib.MinMax
namespace Go.Proofs.YtibopjjicfiimaaGreatDoor
open Go.RowKit
set_option linter.unusedVariables false
/-- the changes, in memory -/
def ChgAt (C : Nat) (w : World) (a : Option Addr) (n : Nat) : Prop :=
  ∀ i, i < n → ∃ (cb co : Nat) (kd at_ ii : Int) (y : Nat), a = some ⟨cb, co, none⟩ ∧ cb < C ∧ (-9223372036854775808 ≤ at_ ∧ at_ < 9223372036854775808) ∧ (-9223372036854775808 ≤ ii ∧ ii < 9223372036854775808) ∧ y < 18446744073709551616 ∧
    w.cell? ⟨cb, co + i * 4, none⟩ = some (.int .i64 kd) ∧ w.cell? ⟨cb, co + i * 4 + 1, none⟩ = some (.int .i64 at_) ∧ w.cell? ⟨cb, co + i * 4 + 2, none⟩ = some (.int .i64 ii) ∧ w.cell? ⟨cb, co + i * 4 + 3, none⟩ = some (.int .u64 (y : Int))
theorem tmod_two (x : Int) (n : Nat) (hn : 0 < n) : -(n : Int) < x.tmod n ∧ x.tmod n < n := by
  have h := Int.tmod_lt_of_pos x (show (0 : Int) < n by omega)
  have h2 := Int.tmod_lt_of_pos (-x) (show (0 : Int) < n by omega)
  rw [Int.neg_tmod] at h2
  omega
theorem rest_two (x : Int) (n : Nat) (hn : 0 < n) : ∃ k : Nat, (x.tmod (n : Int) + (n : Int)).tmod (n : Int) = (k : Int) ∧ k < n := by
  have h0 := tmod_two x n hn
  have h1 := Int.tmod_nonneg (n : Int) (show 0 ≤ x.tmod (n : Int) + (n : Int) by omega)
  have h2 := tmod_two (x.tmod (n : Int) + (n : Int)) n hn
  exact ⟨((x.tmod (n : Int) + (n : Int)).tmod (n : Int)).toNat, by omega, by omega⟩
/-- memory while one change is made -/
def TurnS (C b ln lc U : Nat) (wr : World) (p q : Nat) (cc yc : Array Value) (yn : Nat) (yw : Value) (wx : World) : Prop :=
  ∃ os2, TownAt C wx (some ⟨b, 0, none⟩) ln lc os2 ∧ usedO os2 = U ∧ Below C wr wx ∧ FH wr wx ∧ wx.heap[p]? = some (.cells cc 70 (0, 0)) ∧ wx.heap[q]? = some (.cells yc 65 (0, 0)) ∧ NumSl wx 30 .u64 C 18446744073709551616 yn yw ∧ q ≠ b
section
variable {C b ln lc U p q yn i : Nat} {wr wx : World} {cc yc : Array Value} {yw : Value}
theorem TurnS.obj (h : TurnS C b ln lc U wr p q cc yc yn yw wx) (hi : i < ln) : ∃ o wv bv, ObOK wx C o wv bv ∧ (∀ j, j < 8 → wx.cell? ⟨b, i * 8 + j, none⟩ = (obL o wv bv)[j]?) ∧ ∀ j, wx.frozen? ⟨b, j, none⟩ = false := by
  obtain ⟨os2, h1, -⟩ := h
  obtain ⟨h1, h2, h3, h4, b', h5, h6, cur, h7, h8, h9⟩ := h1
  obtain ⟨o, ho⟩ : ∃ o, os2[i]? = some o := ⟨_, List.getElem?_eq_getElem (by omega)⟩
  obtain ⟨wv, bv, k1, k2⟩ := h9 i o ho
  simp only [Option.some.injEq, Addr.mk.injEq, and_true] at h5
  obtain rfl := h5
  exact ⟨o, wv, bv, k1, fun j hj => by rw [cellO h7, Nat.mul_comm i 8]; exact k2 j hj, fun j => by unfold World.frozen?; rw [h7]; cases j <;> rfl⟩
theorem TurnS.set1 {j : Nat} {u : Value} (h : TurnS C b ln lc U wr p q cc yc yn yw wx) (hi : i < ln) (hj : j < 8)
    (hc : ∃ f : Ob → Ob, ∀ o wv bv, ObOK wx C o wv bv → (f o).at_ = o.at_ ∧ (f o).cells = o.cells ∧ ObOK wx C (f o) wv bv ∧ obL (f o) wv bv = (obL o wv bv).set j u) :
    TurnS C b ln lc U wr p q cc yc yn yw (wx.setCell ⟨b, i * 8 + j, none⟩ u) := by
  obtain ⟨f, hf⟩ := hc
  obtain ⟨os2, h1, h2, h3, h4, h5, h6, h7, h8⟩ := h
  obtain ⟨o, ho⟩ : ∃ o, os2[i]? = some o := ⟨_, List.getElem?_eq_getElem (by rw [← h1.1]; exact hi)⟩
  obtain ⟨-, -, -, -, b', e5, e6, cur, e7, e8, e9⟩ := id h1
  obtain ⟨wv0, bv0, k1, -⟩ := e9 i o ho
  simp only [Option.some.injEq, Addr.mk.injEq, and_true] at e5
  obtain rfl := e5
  obtain ⟨f1, f2, -, -⟩ := hf o wv0 bv0 k1
  have hp : p ≠ b := by
    rintro rfl
    rw [e7] at h5
    simp at h5
  rw [Nat.mul_comm i 8]
  refine ⟨os2.set i (f o), h1.put ho rfl hj f1 f2 fun wv bv hk => ⟨wv, bv, (hf o wv bv hk).2.2⟩, (usedO_set _ _ _ _ ho f2).trans h2, h3.setCell (p := ⟨b, 8 * i + j, none⟩) e6 u, h4.trans (FH.set e7 (by decide)), (Below.heap_setCell _ _ _ _ hp).trans h5, (Below.heap_setCell _ _ _ _ h8).trans h6, h7.setO e7 (by decide), h8⟩
theorem TurnS.cls {c : Nat} (h : TurnS C b ln lc U wr p q cc yc yn yw wx) (hi : i < ln) (hc : c % 2 = 0 ∧ c ≠ 0 ∧ c < 18446744073709551616) : TurnS C b ln lc U wr p q cc yc yn yw (wx.setCell ⟨b, i * 8 + 1, none⟩ (.int .u64 (c : Int))) :=
  h.set1 hi (by omega) ⟨fun o => { o with cls := c }, fun o wv bv hk => ⟨rfl, rfl, ⟨hk.kind, hc, hk.size, hk.words, hk.bytes⟩, rfl⟩⟩
theorem TurnS.mark (h : TurnS C b ln lc U wr p q cc yc yn yw wx) (hi : i < ln) : TurnS C b ln lc U wr p q cc yc yn yw (wx.setCell ⟨b, i * 8 + 5, none⟩ (.bool true)) :=
  h.set1 hi (by omega) ⟨fun o => { o with mark := true }, fun o wv bv hk => ⟨rfl, rfl, ⟨hk.kind, hk.cls, hk.size, hk.words, hk.bytes⟩, rfl⟩⟩
theorem TurnS.kp {bb j : Nat} {T : TypeId} {c : Array Value} {u : Value} (h : TurnS C b ln lc U wr p q cc yc yn yw wx) (hb : wx.heap[bb]? = some (Obj.cells c T (0, 0))) (hC : C ≤ bb) (hk : Kp wx (wx.setCell ⟨bb, j, none⟩ u)) (h1 : T ≠ 70) (h2 : T ≠ 65) (h3 : T ≠ 29) :
    TurnS C b ln lc U wr p q cc yc yn yw (wx.setCell ⟨bb, j, none⟩ u) := by
  obtain ⟨os2, g1, g2, g3, g4, g5, g6, g7, g8⟩ := h
  have hp : p ≠ bb := by
    rintro rfl
    rw [hb] at g5
    simp at g5
    exact h1 g5.2
  have hq : q ≠ bb := by
    rintro rfl
    rw [hb] at g6
    simp at g6
    exact h2 g6.2
  exact ⟨os2, g1.keep hk, g2, g3.setCell (p := ⟨bb, j, none⟩) hC u, g4.trans (FH.set hb h3), (Below.heap_setCell _ _ _ _ hp).trans g5, (Below.heap_setCell _ _ _ _ hq).trans g6, g7.keepW hk, g8⟩
/-- a word becomes another one -/
theorem TurnS.word {n j x : Nat} {v : Value} (h : TurnS C b ln lc U wr p q cc yc yn yw wx) (hv : NumSl wx 30 .u64 C 18446744073709551616 n v) (hn : 0 < n) (hx : x < 18446744073709551616) :
    ∃ bb c, v = .slice (some ⟨bb, 0, none⟩) n c ∧ TurnS C b ln lc U wr p q cc yc yn yw (wx.setCell ⟨bb, j, none⟩ (.int .u64 (x : Int))) := by
  obtain ⟨a, c, rfl, h2, h3, h0, rfl | ⟨bb, rfl, k0, cur, k1, k2⟩⟩ := hv
  · omega
  · exact ⟨bb, c, rfl, h.kp k1 k0 (kp_setW k1 hx) (by decide) (by decide) (by decide)⟩
theorem TurnS.byte {n j x : Nat} {v : Value} (h : TurnS C b ln lc U wr p q cc yc yn yw wx) (hv : NumSl wx 5 .u8 C 256 n v) (hn : 0 < n) (hx : x < 256) :
    ∃ bb c, v = .slice (some ⟨bb, 0, none⟩) n c ∧ TurnS C b ln lc U wr p q cc yc yn yw (wx.setCell ⟨bb, j, none⟩ (.int .u8 (x : Int))) := by
  obtain ⟨a, c, rfl, h2, h3, h0, rfl | ⟨bb, rfl, k0, cur, k1, k2⟩⟩ := hv
  · omega
  · exact ⟨bb, c, rfl, h.kp k1 k0 (kp_setB k1 hx) (by decide) (by decide) (by decide)⟩
end
section
variable {C b ln lc U p q yn i : Nat} {wr wx : World} {cc yc : Array Value} {yw : Value}
theorem TurnS.cellC (h : TurnS C b ln lc U wr p q cc yc yn yw wx) (j : Nat) : wx.cell? ⟨p, j, none⟩ = cc[j]? := by
  obtain ⟨-, -, -, -, -, h, -⟩ := h
  exact cellO h j
theorem TurnS.cellY (h : TurnS C b ln lc U wr p q cc yc yn yw wx) (j : Nat) : wx.cell? ⟨q, j, none⟩ = yc[j]? := by
  obtain ⟨-, -, -, -, -, -, h, -⟩ := h
  exact cellO h j
theorem TurnS.later {wy : World} (h : TurnS C b ln lc U wr p q cc yc yn yw wx) (hb : Below wx.heap.size wx wy) : TurnS C b ln lc U wr p q cc yc yn yw wy := by
  obtain ⟨os2, g1, g2, g3, g4, g5, g6, g7, g8⟩ := h
  have hC : C ≤ wx.heap.size := by
    obtain ⟨-, -, -, -, b', e5, e6, cur, e7, -⟩ := id g1
    have := (Array.getElem?_eq_some_iff.1 e7).1
    omega
  exact ⟨os2, g1.same (same_below hb), g2, g3.trans (hb.mono hC), g4.trans (FH.below hb), (hb.block _ (Array.getElem?_eq_some_iff.1 g5).1).trans g5, (hb.block _ (Array.getElem?_eq_some_iff.1 g6).1).trans g6, g7.keepW (same_below hb).kp, g8⟩
theorem TurnS.drew (h : TurnS C b ln lc U wr p q cc yc yn yw wx) : TurnS C b ln lc U wr p q cc yc yn yw wx.drew := h.later (Below.refl _ _).drew
theorem TurnS.fin {w1 : World} (h : TurnS C b ln lc U wr p q cc yc yn yw wx) (hb : Below C w1 wr) (hf : FH w1 wr) : ∃ os2, TownAt C wx (some ⟨b, 0, none⟩) ln lc os2 ∧ usedO os2 = U ∧ Below C w1 wx ∧ FH w1 wx := by
  obtain ⟨os2, g1, g2, g3, g4, -⟩ := h
  exact ⟨os2, g1, g2, hb.trans g3, hf.trans g4⟩
theorem TurnS.yws (h : TurnS C b ln lc U wr p q cc yc yn yw wx) : NumSl wx 30 .u64 C 18446744073709551616 yn yw := by
  obtain ⟨os2, g1, g2, g3, g4, g5, g6, g7, g8⟩ := h
  exact g7
theorem TurnS.ge (h : TurnS C b ln lc U wr p q cc yc yn yw wx) : wr.heap.size ≤ wx.heap.size := by
  obtain ⟨os2, g1, g2, g3, -⟩ := h
  exact g3.size
end
/-- an index, of whatever number -/
theorem index_two (x : Int) (n : Nat) (hn : 0 < n) : ∃ k : Nat, (max x 0).tmod (n : Int) = (k : Int) ∧ (max x 0) % (n : Int) = (k : Int) ∧ k < n := by
  have h0 : 0 ≤ max x 0 := by omega
  have h1 := Int.emod_nonneg (max x 0) (show (n : Int) ≠ 0 by omega)
  have h2 := Int.emod_lt_of_pos (max x 0) (show (0 : Int) < n by omega)
  have h3 := Int.tmod_eq_emod_of_nonneg (b := (n : Int)) h0
  exact ⟨((max x 0) % (n : Int)).toNat, by omega, by omega, by omega⟩
/-- numbers, by their cells -/
theorem NumSl.cells {w : World} {T : TypeId} {q : IntKind} {C top n : Nat} {v : Value} (h : NumSl w T q C top n v) : ∃ a c, v = .slice a n c ∧ n ≤ c ∧ c ≤ maxLen ∧ (0 < n → ∃ bb, a = some ⟨bb, 0, none⟩ ∧ C ≤ bb ∧ bb < w.heap.size ∧ (∀ j, w.frozen? ⟨bb, j, none⟩ = false) ∧ ∀ j, j < n → ∃ y : Nat, y < top ∧ w.cell? ⟨bb, j, none⟩ = some (.int q (y : Int))) := by
  obtain ⟨a, c, rfl, h2, h3, h0, h4⟩ := h
  refine ⟨a, c, rfl, h2, h3, fun hn => ?_⟩
  rcases h4 with rfl | ⟨bb, rfl, k0, cur, k1, k2⟩
  · omega
  · refine ⟨bb, rfl, k0, (Array.getElem?_eq_some_iff.1 k1).1, fun j => by unfold World.frozen?; rw [k1]; cases j <;> rfl, fun j hj => ?_⟩
    obtain ⟨y, hy, hc⟩ := k2 j hj
    exact ⟨y, hy, (cellO k1 j).trans hc⟩
theorem word_any (x : Int) (W : World) : Calls Tryz.prog 15 #[.int .i64 x] W fun e w' => (∃ v : Nat, v < 18446744073709551616 ∧ e = .returned (.int .u64 (v : Int))) ∧ Below W.heap.size W w' := by
  go_enter Tryz.func15, Tryz.ntmps15
  go_wp2_with fail
  go_ret
  refine ⟨⟨(IntKind.u64.wrap (IntKind.u64.wrap (IntKind.u64.wrap x * 2) + 1)).toNat, ?_, ?_⟩, ?_⟩
  · simp [IntKind.wrap, IntKind.bits, IntKind.signed]; omega
  · refine ret_int ?_
    simp [IntKind.wrap, IntKind.bits, IntKind.signed]; omega
  · repeat (first | with_reducible exact Below.refl _ _ | ((with_reducible refine Below.setCell ?_ ?_ _); rotate_left; focus (first | (simp; done) | (simp; omega) | omega)) | ((with_reducible refine Below.alloc ?_ ?_ _); rotate_left; focus (first | (simp; done) | (simp; omega) | omega)) | (with_reducible refine Below.drew ?_))
set_option maxRecDepth 100000 in
set_option maxHeartbeats 6400000 in
theorem twnturn_any (C : Nat) (W0 : World) (a3 : Option Addr) (n3 c3 : Nat) (hch : ChgAt C W0 a3 n3) (hn3 : n3 ≤ maxLen) (w : World) (hC : C ≤ w.heap.size) (hb0 : Below C W0 w) (la : Option Addr) (ln lc : Nat) (os : List Ob) (h : TownAt C w la ln lc os) (hln : 0 < ln) (hu : usedO os ≤ 3000) :
    Calls Tryz.prog 5 #[.agg #[.int .i64 3000, .slice la ln lc, .int .u32 0], .slice a3 n3 c3] w fun e w' => e = .returned (.agg #[.int .i64 3000, .slice la ln lc, .int .u32 0]) ∧ (∃ os', TownAt C w' la ln lc os' ∧ usedO os' = usedO os) ∧ Below C w w' ∧ FH w w' := by
  have hlm : ln ≤ 1500 := by
    have h1 := two_each os
    have h2 := h.1
    omega
  have hcc : lc ≤ 9223372036854775807 := h.2.2.1
  have hlc : ln ≤ lc := h.2.1
  unfold maxLen at hn3
  have H0 := Lib.hid h; have HCH := Lib.hid hch; have HB0 := Lib.hid hb0
  obtain ⟨b, hla⟩ : ∃ b, la = some ⟨b, 0, none⟩ := by obtain ⟨-, -, -, -, b, h5, -⟩ := h; exact ⟨b, h5⟩
  subst hla
  have HHL := Lib.hid (show FH w w from FH.refl w)
  clear h hch hb0
  go_enter Tryz.func5, Tryz.ntmps5
  go_upto_region 1 with fail
  obtain ⟨w1, hw1⟩ : ∃ w1, w1 = (w.alloc (.cells #[.int .i64 3000, .slice (some ⟨b, 0, none⟩) ln lc, .int .u32 0] 29)).alloc (.cells #[.int .i64 0, .slice none 0 0, .int .u32 0] 29) := ⟨_, rfl⟩
  rw [← hw1]
  have hg1 : Below w.heap.size w w1 := by rw [hw1]; exact ((Below.refl _ w).alloc (Nat.le_refl _) _).alloc (by simp) _
  have hx1 : w1.heap[w.heap.size]? = some (.cells #[.int .i64 3000, .slice (some ⟨b, 0, none⟩) ln lc, .int .u32 0] 29 (0, 0)) := by rw [hw1, Below.heap_alloc _ _ _ (by simp)]; exact heap_alloc_new w _
  have hr1 : w1.heap[w.heap.size + 1]? = some (.cells #[.int .i64 0, .slice none 0 0, .int .u32 0] 29 (0, 0)) := by rw [hw1]; have := heap_alloc_new (w.alloc (.cells #[.int .i64 3000, .slice (some ⟨b, 0, none⟩) ln lc, .int .u32 0] 29)) (.cells #[.int .i64 0, .slice none 0 0, .int .u32 0] 29); simpa using this
  have T1 := Lib.hid (H0.out.same (same_below hg1)); have G1 := Lib.hid hg1; have HX1 := Lib.hid hx1; have HR1 := Lib.hid hr1
  have hs1 := hg1.size
  have hl1 := (Array.getElem?_eq_some_iff.1 hr1).1
  clear hw1 hg1 hx1 hr1
  go_wp2_with fail
  go_loopg [5] 3 (fun gg s5 wr => ∃ (i : Nat) (os' : List Ob), gg = 3 - i ∧ i ≤ 3 ∧ s5 = .int .i64 (i : Int) ∧ TownAt C wr (some ⟨b, 0, none⟩) ln lc os' ∧ usedO os' = usedO os ∧ Below C w1 wr ∧ FH w1 wr)
  case atStart => exact ⟨0, os, rfl, by omega, rfl, T1.out, rfl, Below.refl _ _, FH.refl _⟩
  case round =>
    obtain ⟨i, os', hgi, hi, rfl, hta, hus, hbr, hfh⟩ := hrel
    have HGI := Lib.hid hgi; have HTA := Lib.hid hta; have HUS := Lib.hid hus; have HBR := Lib.hid hbr; have HFH := Lib.hid hfh
    have hzr := hbr.size
    have HXR := Lib.hid ((hfh _ _ HX1.out).trans HX1.out)
    have y1 := cellO HXR.out 1
    simp at y1
    clear hgi hta hus hbr hfh
    by_cases hlt : i < n3 ∧ i < 3
    · obtain ⟨hi3, hi4⟩ := hlt
      obtain ⟨cb, co, kd, at_, ii, y, rfl, hcb, hat, hii, hy, k0, k1, k2, k3⟩ := HCH.out i hi3
      have hB := HB0.out.trans ((G1.out.mono hC).trans HBR.out)
      have q0 := (hB.cell (p := ⟨cb, co + i * 4, none⟩) hcb).trans k0
      have q1 := (hB.cell (p := ⟨cb, co + i * 4 + 1, none⟩) hcb).trans k1
      have q2 := (hB.cell (p := ⟨cb, co + i * 4 + 2, none⟩) hcb).trans k2
      have q3 := (hB.cell (p := ⟨cb, co + i * 4 + 3, none⟩) hcb).trans k3
      obtain ⟨w2, hw2⟩ : ∃ w2, w2 = wr.alloc (.cells #[.int .i64 kd, .int .i64 at_, .int .i64 ii, .int .u64 (y : Int)] 70) := ⟨_, rfl⟩
      have hg2 : Below wr.heap.size wr w2 := by rw [hw2]; exact (Below.refl _ wr).alloc (Nat.le_refl _) _
      have hx2 : w2.heap[wr.heap.size]? = some (.cells #[.int .i64 kd, .int .i64 at_, .int .i64 ii, .int .u64 (y : Int)] 70 (0, 0)) := by rw [hw2]; exact heap_alloc_new wr _
      have G2 := Lib.hid hg2; have HX2 := Lib.hid hx2
      have hs2 := hg2.size
      have hl2 := (Array.getElem?_eq_some_iff.1 hx2).1
      clear hg2 hx2 k0 k1 k2 k3 hB
      go_upto_region 5 with fail
      rw [← hw2]
      have y1 := cellO ((G2.out.block w.heap.size (by omega)).trans HXR.out) 1
      have x0 := cellO HX2.out 0
      have x1 := cellO HX2.out 1
      have x2 := cellO HX2.out 2
      have x3 := cellO HX2.out 3
      simp at y1 x0 x1 x2 x3
      clear hw2 q0 q1 q2 q3
      obtain ⟨k, hk1, hk2⟩ := rest_two at_ ln hln
      have htm := tmod_two at_ ln hln
      obtain ⟨r, hr⟩ : ∃ r, at_.tmod (ln : Int) = r := ⟨_, rfl⟩
      rw [hr] at hk1 htm
      have hrn : 0 ≤ r + (ln : Int) := by omega
      have hk1' : (r + (ln : Int)) % (ln : Int) = (k : Int) := by rw [← Int.tmod_eq_emod_of_nonneg hrn]; exact hk1
      obtain ⟨ky, hky⟩ : ∃ ky, y % ln = ky := ⟨_, rfl⟩
      have hky2 : ky < ln := by rw [← hky]; exact Nat.mod_lt _ hln
      have hky1 : (y : Int) % (ln : Int) = (ky : Int) := by rw [← hky]; rfl
      have hky1' : (y : Int).tmod (ln : Int) = (ky : Int) := by rw [Int.tmod_eq_emod_of_nonneg (by omega)]; exact hky1
      have hn0 : ¬ (ln : Int) = 0 := by omega
      have hn0' : ¬ ln = 0 := by omega
      have hkI : (k : Int) < ln := by omega
      have hkyI : (ky : Int) < ln := by omega
      clear hky
      go_upto_region 6 with fail
      go_quiet (fail)
      go_upto_region 7 with fail
      obtain ⟨w3, hw3⟩ : ∃ w3, w3 = w2.drewN nq := ⟨_, rfl⟩
      have hh3 : w3.heap = w2.heap := by rw [hw3]; rfl
      have hg3 : Below w2.heap.size w2 w3 := by rw [hw3]; exact ⟨rfl, rfl, rfl, Nat.le_refl _, fun _ _ => rfl⟩
      rw [← hw3]
      have hz3 : w3.heap.size = w2.heap.size := by rw [hh3]
      rw [← hz3] at hl2 hs2
      have y1 := cellO ((hg3.block w.heap.size (by omega)).trans ((G2.out.block w.heap.size (by omega)).trans HXR.out)) 1
      have HX3 := Lib.hid ((hg3.block wr.heap.size (by omega)).trans HX2.out)
      have x0 := cellO HX3.out 0
      have x1 := cellO HX3.out 1
      have x2 := cellO HX3.out 2
      have x3 := cellO HX3.out 3
      simp at y1 x0 x1 x2 x3
      have G3 := Lib.hid (G2.out.trans (hg3.mono G2.out.size))
      clear hw3 hh3 hz3 hg3
      clear HX2 G2
      clear nq
      obtain ⟨oy, hoy⟩ : ∃ oy, os'[ky]? = some oy := ⟨_, List.getElem?_eq_getElem (by rw [← HTA.out.1]; exact hky2)⟩
      obtain ⟨yat0, yat1⟩ := HTA.out.bound hoy
      obtain ⟨b', wvy, bvy, hbb, hbl, -, hoby, hcy⟩ := HTA.out.get hoy
      simp only [Option.some.injEq, Addr.mk.injEq, and_true] at hbb
      obtain rfl := hbb
      have hus3 : oy.at_ ≤ 3000 := by have := HUS.out; omega
      obtain ⟨yat, ycls, ykind, ysize, ymark⟩ := oy
      obtain ⟨wya, wyc, rfl, -⟩ := hoby.words
      obtain ⟨bya, byc, rfl, -⟩ := hoby.bytes
      have HYW := Lib.hid hoby.words
      dsimp only at *
      obtain ⟨nyw, hnyw⟩ : ∃ nyw, (if ykind = 2 then 0 else ysize) = nyw := ⟨_, rfl⟩
      obtain ⟨nyb, hnyb⟩ : ∃ nyb, (if ykind = 2 then ysize else 0) = nyb := ⟨_, rfl⟩
      rw [hnyw, hnyb] at hcy
      rw [hnyw] at HYW
      have d0 := (G3.out.cell (p := ⟨b, 8 * ky + 0, none⟩) hbl).trans (hcy 0 (by omega))
      have d1 := (G3.out.cell (p := ⟨b, 8 * ky + 1, none⟩) hbl).trans (hcy 1 (by omega))
      have d2 := (G3.out.cell (p := ⟨b, 8 * ky + 2, none⟩) hbl).trans (hcy 2 (by omega))
      have d3 := (G3.out.cell (p := ⟨b, 8 * ky + 3, none⟩) hbl).trans (hcy 3 (by omega))
      have d4 := (G3.out.cell (p := ⟨b, 8 * ky + 4, none⟩) hbl).trans (hcy 4 (by omega))
      have d5 := (G3.out.cell (p := ⟨b, 8 * ky + 5, none⟩) hbl).trans (hcy 5 (by omega))
      have d6 := (G3.out.cell (p := ⟨b, 8 * ky + 6, none⟩) hbl).trans (hcy 6 (by omega))
      have d7 := (G3.out.cell (p := ⟨b, 8 * ky + 7, none⟩) hbl).trans (hcy 7 (by omega))
      rw [Nat.mul_comm 8 ky] at d0 d1 d2 d3 d4 d5 d6 d7
      simp [obL] at d0 d1 d2 d3 d4 d5 d6 d7
      have HN2 := Lib.hid (show b ≠ w3.heap.size by omega)
      have l1 : w.heap.size < w3.heap.size := by omega
      have l2 : b < w3.heap.size := by omega
      have e1 : w3.heap.size ≠ wr.heap.size := by omega
      have e2 : w3.heap.size ≠ w.heap.size := by omega
      have e3 : w3.heap.size ≠ b := by omega
      have e1' : wr.heap.size ≠ w3.heap.size := by omega
      have e2' : w.heap.size ≠ w3.heap.size := by omega
      have e3' : b ≠ w3.heap.size := by omega
      have hwl : IntKind.u64.wrap (ln : Int) = (ln : Int) := by simp [IntKind.wrap, IntKind.bits, IntKind.signed]; omega
      clear hcy hoby hnyw hnyb hoy yat1 hbl
      obtain ⟨YC, hYC⟩ : ∃ YC : Array Value, YC = #[.int .i64 (yat : Int), .int .u64 (ycls : Int), .int .i64 ykind, .int .i64 (ysize : Int), .int .u32 0, .bool ymark, .slice wya nyw wyc, .slice bya nyb byc] := ⟨_, rfl⟩
      have HYC := Lib.hid hYC
      clear hYC
      go_cut [9] from 11 to 157 (fun s9 wx => s9 = .pointer (some ⟨w3.heap.size, 0, none⟩) ∧ Below w3.heap.size w3 wx ∧ wx.heap[w3.heap.size]? = some (.cells YC 65 (0, 0)))
      case first =>
        go_region
        all_goals (go_wp2_with fail)
        all_goals go_meet
        all_goals exact ⟨rfl, ((Below.refl _ w3).alloc (Nat.le_refl _) _).drew, by rw [HYC.out]; exact heap_alloc_new w3 _⟩
      case rest =>
      obtain ⟨rfl, hg4, hx4⟩ := hcut
      obtain ⟨w4, hw4⟩ : ∃ w4, w4 = wc := ⟨_, rfl⟩
      rw [← hw4] at hg4 hx4 ⊢
      clear hw4 x0 x1 x2 x3 y1 d0 d1 d2 d3 d4 d5 d6 d7
      have hCr : C ≤ wr.heap.size := by omega
      obtain ⟨CC, hCC⟩ : ∃ CC : Array Value, CC = #[.int .i64 kd, .int .i64 at_, .int .i64 ii, .int .u64 (y : Int)] := ⟨_, rfl⟩
      have HCC := Lib.hid hCC
      have TS := Lib.hid (show TurnS C b ln lc (usedO os) wr wr.heap.size w3.heap.size CC YC nyw (.slice wya nyw wyc) w4 from by
        have g4 : Below wr.heap.size wr w4 := G3.out.trans (hg4.mono G3.out.size)
        exact ⟨os', HTA.out.same (same_below g4), HUS.out, g4.mono hCr, FH.below g4, by rw [hCC]; exact (hg4.block wr.heap.size hl2).trans HX3.out, hx4, HYW.out.keepW (same_below g4).kp, by omega⟩)
      obtain ⟨p, hp⟩ : ∃ p, wr.heap.size = p := ⟨_, rfl⟩
      obtain ⟨q, hq⟩ : ∃ q, w3.heap.size = q := ⟨_, rfl⟩
      rw [hp, hq] at TS ⊢
      have HCR := Lib.hid hCr
      clear hg4 hx4 hCC G3 HX3 HYW hp hq e1 e2 e3 e1' e2' e3' l1 l2 hl2 hs2 hCr
      have x0 := TS.out.cellC 0
      have z0 := TS.out.cellY 0
      rw [HCC.out] at x0
      rw [HYC.out] at z0
      simp at x0 z0
      go_upto_if 50 with fail
      go_cut [] from 11 to 157 (fun wx => TurnS C b ln lc (usedO os) wr p q CC YC nyw (.slice wya nyw wyc) wx)
      case first =>
        by_cases hkd : kd = 3
        · subst hkd
          obtain ⟨o, wv, bv, -, hcl, hfz⟩ := TS.out.obj hk2
          have c1 := hcl 1 (by omega)
          simp [obL] at c1
          have f1 := hfz (k * 8 + 1)
          clear hcl hfz
          go_wp2_with fail
          go_meet
          exact (TS.out.cls (c := 2 * yat) hk2 ⟨by omega, by omega, by omega⟩)
        · have hkb : (kd == 3) = false := by simpa using hkd
          go_wp2_with fail
          go_meet
          exact TS.out
      case rest =>
      clear TS x0 z0
      obtain ⟨w5, hw5⟩ : ∃ w5, w5 = wc := ⟨_, rfl⟩
      rw [← hw5] at hcut ⊢
      clear hw5
      have TS := Lib.hid hcut
      clear hcut
      have x0 := TS.out.cellC 0
      rw [HCC.out] at x0
      simp at x0
      go_upto_if 61 with fail
      go_cut [] from 11 to 157 (fun wx => TurnS C b ln lc (usedO os) wr p q CC YC nyw (.slice wya nyw wyc) wx)
      case first =>
        by_cases hkd : kd = 4
        · subst hkd
          obtain ⟨o, wv, bv, -, hcl, hfz⟩ := TS.out.obj hk2
          have c1 := hcl 5 (by omega)
          simp [obL] at c1
          have f1 := hfz (k * 8 + 5)
          clear hcl hfz
          go_wp2_with fail
          go_meet
          exact TS.out.mark hk2
        · have hkb : (kd == 4) = false := by simpa using hkd
          go_wp2_with fail
          go_meet
          exact TS.out
      case rest =>
      clear TS x0
      obtain ⟨w6, hw6⟩ : ∃ w6, w6 = wc := ⟨_, rfl⟩
      rw [← hw6] at hcut ⊢
      clear hw6
      have TS := Lib.hid hcut
      clear hcut
      have x0 := TS.out.cellC 0
      have x2 := TS.out.cellC 2
      have x3 := TS.out.cellC 3
      rw [HCC.out] at x0 x2 x3
      simp at x0 x2 x3
      obtain ⟨o, wv, bv, hob, hcl, hfz⟩ := TS.out.obj hk2
      have c7 := hcl 7 (by omega)
      simp [obL] at c7
      obtain ⟨nb, hnb⟩ : ∃ nb, (if o.kind = 2 then o.size else 0) = nb := ⟨_, rfl⟩
      have hby := hob.bytes
      rw [hnb] at hby
      obtain ⟨ba, bc, rfl, hbc1, hbc2, hbx⟩ := hby.cells
      have HBY := Lib.hid hby; have HBX := Lib.hid hbx
      clear hob hcl hfz hnb hby hbx
      unfold maxLen at hbc2
      go_upto_region 12 with fail
      go_cut [76] from 11 to 75 (fun s76 wx => wx = w6 ∧ ∃ t, s76 = .bool t ∧ (t = true → 0 < nb ∧ kd = 5))
      case first =>
        by_cases h1 : 0 < nb
        · by_cases h2 : kd = 5
          · have G := Lib.hid (show 0 < nb ∧ kd = 5 from ⟨h1, h2⟩)
            have h2b : (kd == 5) = true := by simpa using h2
            go_wp2_with fail
            all_goals try (exfalso; go_light; omega)
            all_goals go_meet
            all_goals exact ⟨rfl, _, rfl, fun _ => G.out⟩
          · have h2b : (kd == 5) = false := by simpa using h2
            go_wp2_with fail
            all_goals try (exfalso; go_light; omega)
            all_goals go_meet
            all_goals exact ⟨rfl, false, rfl, fun h => by cases h⟩
        · go_wp2_with fail
          all_goals try (exfalso; go_light; omega)
          all_goals go_meet
          all_goals exact ⟨rfl, false, rfl, fun h => by cases h⟩
      case rest =>
      obtain ⟨hwc, t, h76, htt⟩ := hcut
      obtain rfl := hwc.symm
      subst h76
      have HTT := Lib.hid htt
      clear htt
      go_upto_if 76 with fail
      go_cut [] from 11 to 157 (fun wx => TurnS C b ln lc (usedO os) wr p q CC YC nyw (.slice wya nyw wyc) wx)
      case first =>
        cases t
        · go_wp2_with fail
          go_meet
          exact TS.out
        · obtain ⟨h1, h2⟩ := HTT.out rfl
          obtain ⟨bb, rfl, hCb, hbl, hfz, hcl⟩ := HBX.out h1
          obtain ⟨kx, m1, m2, m3⟩ := index_two ii nb h1
          obtain ⟨yo, -, hc⟩ := hcl kx m3
          have f1 := hfz kx
          have hnb0 : ¬ (nb : Int) = 0 := by omega
          have hnb0' : ¬ nb = 0 := by omega
          have hm0 : 0 ≤ max ii 0 := by omega
          have hkx : (kx : Int) < nb := by omega
          clear hfz hcl h2
          go_upto_region 13 with fail
          go_region
          all_goals (go_wp2_with fail)
          all_goals go_meet
          obtain ⟨bb', c', he, ht⟩ := TS.out.byte (j := kx) (x := y % 256) HBY.out h1 (by omega)
          simp only [Value.slice.injEq, Option.some.injEq, Addr.mk.injEq, and_true, true_and] at he
          obtain ⟨rfl, rfl⟩ := he
          exact ht.drew
      case rest =>
      clear TS HTT HBX HBY c7 x0 x2 x3
      obtain ⟨w7, hw7⟩ : ∃ w7, w7 = wc := ⟨_, rfl⟩
      rw [← hw7] at hcut ⊢
      clear hw7
      have TS := Lib.hid hcut
      clear hcut
      have x0 := TS.out.cellC 0
      have x2 := TS.out.cellC 2
      have x3 := TS.out.cellC 3
      have z0 := TS.out.cellY 0
      have z6 := TS.out.cellY 6
      rw [HCC.out] at x0 x2 x3
      rw [HYC.out] at z0 z6
      simp at x0 x2 x3 z0 z6
      obtain ⟨o, wv, bv, hob, hcl, hfz⟩ := TS.out.obj hk2
      have c6 := hcl 6 (by omega)
      simp [obL] at c6
      obtain ⟨nw, hnw⟩ : ∃ nw, (if o.kind = 2 then 0 else o.size) = nw := ⟨_, rfl⟩
      have hwy := hob.words
      rw [hnw] at hwy
      obtain ⟨wa, wcp, rfl, hwc1, hwc2, hwx⟩ := hwy.cells
      have HWY := Lib.hid hwy; have HWX := Lib.hid hwx
      have hlt7 : b < w7.heap.size := lt_of_cell c6
      clear hob hcl hfz hnw hwy hwx
      unfold maxLen at hwc2
      by_cases hw0 : nw = 0
      · subst hw0
        go_wp2_with fail
        go_roundg (3 - (i + 1))
        case measure => rw [HGI.out]; omega
        case rel =>
          obtain ⟨os2, t1, t2, t3, t4⟩ := (TS.out).fin HBR.out HFH.out
          exact ⟨i + 1, os2, rfl, by omega, by go_num, t1, t2, t3, t4⟩
      · obtain ⟨wb, rfl, hCw, hwl, hfw, hclw⟩ := HWX.out (by omega)
        obtain ⟨kx, m1, m2, m3⟩ := index_two ii nw (by omega)
        have hm0 : 0 ≤ max ii 0 := by omega
        have hnw0 : ¬ (nw : Int) = 0 := by omega
        have hnw1 : 0 < (nw : Int) := by omega
        have hkx : (kx : Int) < nw := by omega
        obtain ⟨yo, -, hc⟩ := hclw kx m3
        have f1 := hfw kx
        clear hfw hclw
        go_upto_region 15 with fail
        go_quiet (fail)
        obtain ⟨w8, hw8⟩ : ∃ w8, w8 = w7.drewN nq := ⟨_, rfl⟩
        rw [← hw8]
        have g8 : Below w7.heap.size w7 w8 := by rw [hw8]; exact ⟨rfl, rfl, rfl, Nat.le_refl _, fun _ _ => rfl⟩
        have TT := Lib.hid (TS.out.later g8)
        have hfr : w8.frozen? ⟨wb, kx, none⟩ = false := by rw [hw8]; exact f1
        have hc8 := (g8.cell (p := ⟨wb, kx, none⟩) hwl).trans hc
        have HW8 := Lib.hid (HWY.out.keepW (same_below g8).kp)
        have hs8 := g8.size
        clear hw8 g8 f1 hc x0 x2 x3 z0 z6 TS HWY HWX c6
        clear nq
        have TS := TT
        have HWY := HW8
        clear TT HW8
        have x0 := TS.out.cellC 0
        have x2 := TS.out.cellC 2
        have x3 := TS.out.cellC 3
        have z0 := TS.out.cellY 0
        have z6 := TS.out.cellY 6
        rw [HCC.out] at x0 x2 x3
        rw [HYC.out] at z0 z6
        simp at x0 x2 x3 z0 z6
        by_cases hk1 : kd = 1
        · subst hk1
          by_cases hy0 : nyw = 0
          · subst hy0
            go_wp2_with fail
            go_roundg (3 - (i + 1))
            case measure => rw [HGI.out]; omega
            case rel =>
              obtain ⟨os2, t1, t2, t3, t4⟩ := (TS.out).fin HBR.out HFH.out
              exact ⟨i + 1, os2, rfl, by omega, by go_num, t1, t2, t3, t4⟩
          · obtain ⟨ya2, yc2, hye, hyc1, hyc2, hyx⟩ := TS.out.yws.cells
            simp only [Value.slice.injEq, true_and] at hye
            obtain ⟨rfl, rfl⟩ := hye
            obtain ⟨yb, rfl, -, hyl, -, hycl⟩ := hyx (by omega)
            obtain ⟨ky2, n1, n2, n3'⟩ := index_two ii nyw (by omega)
            obtain ⟨yv, hyv, hycc⟩ := hycl ky2 n3'
            have hny0 : ¬ (nyw : Int) = 0 := by omega
            have hny1 : 0 < (nyw : Int) := by omega
            have hky2' : (ky2 : Int) < nyw := by omega
            unfold maxLen at hyc2
            clear hycl hyx
            obtain ⟨bb', c', he, ht⟩ := TS.out.word (j := kx) (x := yv) HWY.out (by omega) (by omega)
            simp only [Value.slice.injEq, Option.some.injEq, Addr.mk.injEq, and_true, true_and] at he
            obtain ⟨rfl, rfl⟩ := he
            have HT := Lib.hid ht
            clear ht
            go_upto_region 19 with fail
            go_region
            go_wp2_with fail
            go_roundg (3 - (i + 1))
            case measure => rw [HGI.out]; omega
            case rel =>
              obtain ⟨os2, t1, t2, t3, t4⟩ := (HT.out.drew).fin HBR.out HFH.out
              exact ⟨i + 1, os2, rfl, by omega, by go_num, t1, t2, t3, t4⟩
        · have hb1 : (kd == 1) = false := by simpa using hk1
          by_cases hk2' : kd = 2
          · subst hk2'
            obtain ⟨bb', c', he, ht⟩ := TS.out.word (j := kx) (x := 2 * yat) HWY.out (by omega) (by omega)
            simp only [Value.slice.injEq, Option.some.injEq, Addr.mk.injEq, and_true, true_and] at he
            obtain ⟨rfl, rfl⟩ := he
            have HT := Lib.hid ht
            clear ht
            go_wp2_with fail
            go_roundg (3 - (i + 1))
            case measure => rw [HGI.out]; omega
            case rel =>
              obtain ⟨os2, t1, t2, t3, t4⟩ := (HT.out).fin HBR.out HFH.out
              exact ⟨i + 1, os2, rfl, by omega, by go_num, t1, t2, t3, t4⟩
          · have hb2 : (kd == 2) = false := by simpa using hk2'
            by_cases hk6 : kd = 6
            · subst hk6
              go_upto_region 23 with fail
              go_wp2_with fail
              refine (word_any _ w8).mono ?_
              rintro e w9 ⟨⟨v, hv, rfl⟩, hg9⟩
              have HT9 := Lib.hid (TS.out.later hg9)
              have HW9 := Lib.hid (HWY.out.keepW (same_below hg9).kp)
              have hc9 := (hg9.cell (p := ⟨wb, kx, none⟩) (by show wb < w8.heap.size; omega)).trans hc8
              have hf9 : w9.frozen? ⟨wb, kx, none⟩ = false := (World.frozen?_of_block (hg9.block wb (by omega))).trans hfr
              obtain ⟨bb', c', he, ht⟩ := HT9.out.word (j := kx) (x := v) HW9.out (by omega) hv
              simp only [Value.slice.injEq, Option.some.injEq, Addr.mk.injEq, and_true, true_and] at he
              obtain ⟨rfl, rfl⟩ := he
              have HT := Lib.hid ht
              clear ht hg9 hc8 hfr x0 x2 x3 z0 z6
              go_wp2_with fail
              go_roundg (3 - (i + 1))
              case measure => rw [HGI.out]; omega
              case rel =>
                obtain ⟨os2, t1, t2, t3, t4⟩ := (HT.out).fin HBR.out HFH.out
                exact ⟨i + 1, os2, rfl, by omega, by go_num, t1, t2, t3, t4⟩
            · have hb6 : (kd == 6) = false := by simpa using hk6
              by_cases hk7 : kd = 7
              · subst hk7
                obtain ⟨bb', c', he, ht⟩ := TS.out.word (j := kx) (x := y) HWY.out (by omega) (by omega)
                simp only [Value.slice.injEq, Option.some.injEq, Addr.mk.injEq, and_true, true_and] at he
                obtain ⟨rfl, rfl⟩ := he
                have HT := Lib.hid ht
                clear ht
                go_wp2_with fail
                go_roundg (3 - (i + 1))
                case measure => rw [HGI.out]; omega
                case rel =>
                  obtain ⟨os2, t1, t2, t3, t4⟩ := (HT.out).fin HBR.out HFH.out
                  exact ⟨i + 1, os2, rfl, by omega, by go_num, t1, t2, t3, t4⟩
              · have hb7 : (kd == 7) = false := by simpa using hk7
                go_wp2_with fail
                go_roundg (3 - (i + 1))
                case measure => rw [HGI.out]; omega
                case rel =>
                  obtain ⟨os2, t1, t2, t3, t4⟩ := (TS.out).fin HBR.out HFH.out
                  exact ⟨i + 1, os2, rfl, by omega, by go_num, t1, t2, t3, t4⟩
    · have y0 := cellO HXR.out 0
      have y2 := cellO HXR.out 2
      simp at y0 y2
      have hrr := (HFH.out _ _ HR1.out).trans HR1.out
      have r0 := cellO hrr 0
      have r1 := cellO hrr 1
      have r2 := cellO hrr 2
      have f0 : wr.frozen? ⟨w.heap.size + 1, 0, none⟩ = false := by unfold World.frozen?; rw [hrr]; rfl
      have f1 : wr.frozen? ⟨w.heap.size + 1, 1, none⟩ = false := by unfold World.frozen?; rw [hrr]; rfl
      have f2 : wr.frozen? ⟨w.heap.size + 1, 2, none⟩ = false := by unfold World.frozen?; rw [hrr]; rfl
      simp at r0 r1 r2
      have HRR := Lib.hid hrr
      have hlr := (Array.getElem?_eq_some_iff.1 hrr).1
      clear hrr
      go_wp2_with fail
      all_goals (obtain ⟨w5, hw5⟩ : ∃ w5, w5 = ((wr.setCell ⟨w.heap.size + 1, 0, none⟩ (.int .i64 3000)).setCell ⟨w.heap.size + 1, 1, none⟩ (.slice (some ⟨b, 0, none⟩) ln lc)).setCell ⟨w.heap.size + 1, 2, none⟩ (.int .u32 0) := ⟨_, rfl⟩)
      all_goals rw [← hw5]
      all_goals (
        have s1 := heap_setCell_same _ _ 0 _ _ (.int .i64 3000) HRR.out
        have s2 := heap_setCell_same _ _ 1 _ _ (.slice (some ⟨b, 0, none⟩) ln lc) s1
        have s3 := heap_setCell_same _ _ 2 _ _ (.int .u32 0) s2
        rw [← hw5] at s3
        have v0 := cellO s3 0
        have v1 := cellO s3 1
        have v2 := cellO s3 2
        simp at v0 v1 v2
        have hC1 : C ≤ w.heap.size + 1 := by omega
        have hb5 : Below C w1 w5 := by rw [hw5]; exact ((HBR.out.setCell (p := ⟨w.heap.size + 1, 0, none⟩) hC1 _).setCell (p := ⟨w.heap.size + 1, 1, none⟩) hC1 _).setCell (p := ⟨w.heap.size + 1, 2, none⟩) hC1 _
        have ht5 : TownAt C w5 (some ⟨b, 0, none⟩) ln lc os' := by rw [hw5]; exact ((HTA.out.same (same_set HRR.out)).same (same_set s1)).same (same_set s2)
        have hf5 : FH w w5 := fun q c hq => by
          have hql := (Array.getElem?_eq_some_iff.1 hq).1
          have hq1 := (G1.out.block q hql).trans hq
          have hq2 := (HFH.out q c hq1).trans hq1
          have n1 : q ≠ w.heap.size + 1 := by omega
          rw [hw5, Below.heap_setCell _ _ _ _ n1, Below.heap_setCell _ _ _ _ n1, Below.heap_setCell _ _ _ _ n1, hq2, hq]
        exact bodyPost_ret (v := .agg #[.int .i64 3000, .slice (some ⟨b, 0, none⟩) ln lc, .int .u32 0]) (by simp [results, Tryz.results5, go_sem, v0, v1, v2]) rfl ⟨rfl, ⟨os', ht5, HUS.out⟩, (G1.out.mono hC).trans hb5, hf5⟩)
end Go.Proofs.YtibopjjicfiimaaGreatDoor
