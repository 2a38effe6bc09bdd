/- Where all goes that stays. A word, turned. -/
import Derived.Test.YtibopjjicfiimaaGreatDoorCollB
import Derived.Test.YtibopjjicfiimaaGreatDoorOrdA
import Derived.Test.YtibopjjicfiimaaGreatDoorWalkH
import Derived.BigQuiet
namespace Go.Proofs.YtibopjjicfiimaaGreatDoor
open Go.RowKit
set_option linter.unusedVariables false
theorem intInfo : (Tryz.prog.info? 3).map (fun i => (i.zero, i.size, i.bytes)) = some (some (.int .i64 0), 1, 8) := by kernel_rfl
def intVals (l : List Nat) : List Value := l.map fun (x : Nat) => Value.int .i64 (Int.ofNat x)
theorem intVals_len (l : List Nat) : (intVals l).length = l.length := by simp [intVals]
theorem owns_slice {w : World} {B e n size : Nat} {v : Value} {xs : List Value} (h : w.ownsRow B e size v n xs) : ∃ a k c, v = .slice a k c := by
  rcases h.2 with ⟨hv, -⟩ | ⟨g, cap, cur, hv, -⟩
  · exact ⟨_, _, _, hv⟩
  · exact ⟨_, _, _, hv⟩
set_option maxRecDepth 100000 in
set_option maxHeartbeats 1600000 in
theorem arrange_any (B B2 h N free bS : Nat) (S T : Nat → Bool) (M : Nat → Nat) (R : List Nat) (w : World) (H : HeapAt w B h N free S M) (c : CollOK N S M) (hs : Stay S M R T) (hb : BitsAt w B2 bS N T) (hT : TabAt 0 Lib.deBruijn64tab w) :
    Calls Tryz.prog 31 #[.pointer (some ⟨h, 0, none⟩), .pointer (some ⟨bS, 0, none⟩)] w fun e w' => ∃ v, e = .returned (.agg #[.pointer (some ⟨bS, 0, none⟩), v]) ∧ w'.ownsRow w.heap.size 3 1 v (cnt T N) (intVals (plW M T N)) ∧ Below w.heap.size w w' := by
  have hN := c.most
  obtain ⟨i1, hi1, hy0, hy1, hy2⟩ := info_parts intInfo
  have NX := Lib.hid (fun W i (hW : Below w.heap.size w W) => next_any B2 bS N T i W (hb.later hW) (tab_later hT hW))
  have HDD := Lib.hid (fun W a (hW : Below w.heap.size w W) (ha : T a = true) => hHead_yes B h N free a S M W (H.later hW) (by have := (c.lt (hs.sub ha)).2.2; omega) (by have := (c.obj a (hs.sub ha)).2.1; omega) (hs.sub ha) (c.obj a (hs.sub ha)).2.2.1)
  have HC := Lib.hid c; have HST := Lib.hid hs
  have KB := Lib.hid (fun n => ksum_bd M T n)
  have CL := Lib.hid (cnt_le T)
  clear H hb hT c hs
  go_enter Tryz.func31, Tryz.ntmps31
  go_upto_region 3 with fail
  obtain ⟨w2, hw2⟩ : ∃ w2, w2 = (w.alloc (.cells #[.pointer none, .slice none 0 0] 86)).alloc (.cells #[.pointer (some ⟨bS, 0, none⟩), .slice none 0 0] 86) := ⟨_, rfl⟩
  rw [← hw2]
  have hx0 : w2.heap[w.heap.size]? = some (.cells #[.pointer none, .slice none 0 0] 86 (0, 0)) := by rw [hw2, Below.heap_alloc _ _ _ (by simp)]; exact heap_alloc_new w _
  have hx1 : w2.heap[w.heap.size + 1]? = some (.cells #[.pointer (some ⟨bS, 0, none⟩), .slice none 0 0] 86 (0, 0)) := by
    have := heap_alloc_new (w.alloc (.cells #[.pointer none, .slice none 0 0] 86)) (.cells #[.pointer (some ⟨bS, 0, none⟩), .slice none 0 0] 86)
    rw [hw2]; simpa using this
  have hb2 : Below w.heap.size w w2 := by rw [hw2]; exact ((Below.refl _ w).alloc (Nat.le_refl _) _).alloc (by simp) _
  have hz2 : w2.heap.size = w.heap.size + 2 := by rw [hw2]; simp
  have HX0 := Lib.hid hx0; have HX1 := Lib.hid hx1; have HB2 := Lib.hid hb2
  have N0 := Lib.hid (NX.out w2 0 hb2)
  clear hw2 hx0 hx1 hb2
  go_wp2_with fail
  refine N0.out.mono ?_
  rintro e w3 ⟨r0, rfl, hr0, rfl⟩
  have HR0 := Lib.hid hr0
  clear hr0 N0
  go_wp2_with fail
  go_loopg [6, 7] (N + 1) (fun gg s6 s7 wr => ∃ (n : Nat) (r : Int) (v : Value), gg = N + 1 - n ∧ n ≤ N ∧ s6 = .int .i64 ((2 + ksum M T n : Nat) : Int) ∧ s7 = .int .i64 r ∧ IsNext N T n r ∧ wr.heap[w.heap.size]? = some (.cells #[.pointer none, .slice none 0 0] 86 (0, 0)) ∧
    wr.heap[w.heap.size + 1]? = some (.cells #[.pointer (some ⟨bS, 0, none⟩), v] 86 (0, 0)) ∧ wr.ownsRow (w.heap.size + 2) 3 1 v (cnt T n) (intVals (plW M T n)) ∧ Below w.heap.size w wr)
  case atStart => exact ⟨0, r0, _, by omega, by omega, rfl, rfl, HR0.out, HX0.out, HX1.out, World.ownsRow_nil _ _ _ _, HB2.out⟩
  case round =>
    obtain ⟨n, r, v, hg, hn, rfl, rfl, hr, hx0, hx1, how, hbr⟩ := hrel
    have HGG := Lib.hid hg
    have hszr := (Array.getElem?_eq_some_iff.1 hx1).1
    have m0 := (Array.getElem?_eq_some_iff.1 hx0).1
    rcases hr with ⟨rfl, hno⟩ | ⟨a, rfl, haN, hna, hTa, hno⟩
    · obtain ⟨d, rfl⟩ : ∃ d, N = n + d := ⟨N - n, by omega⟩
      obtain ⟨-, e2, -, e4⟩ := skip_all (M := M) (T := T) (n := n) (d := d) (fun j h1 h2 => hno j (by omega) h2)
      rw [← e2, ← e4] at how
      obtain ⟨va, vn, vc, rfl⟩ := owns_slice how
      have y0 := cellO hx1 0
      have y1 := cellO hx1 1
      have f0 : wr.frozen? ⟨w.heap.size, 0, none⟩ = false := by unfold World.frozen?; rw [hx0]; rfl
      have f1 : wr.frozen? ⟨w.heap.size, 1, none⟩ = false := by unfold World.frozen?; rw [hx0]; rfl
      have z0 := cellO hx0 0
      have z1 := cellO hx0 1
      simp at y0 y1 z0 z1
      have HOW := Lib.hid how; have HX := Lib.hid hx0; have HBR := Lib.hid hbr
      clear hg how hx0 hx1 hbr hno e2 e4
      go_wp2_with fail
      obtain ⟨wz, hwz⟩ : ∃ wz, wz = (wr.setCell ⟨w.heap.size, 0, none⟩ (.pointer (some ⟨bS, 0, none⟩))).setCell ⟨w.heap.size, 1, none⟩ (.slice va vn vc) := ⟨_, rfl⟩
      rw [← hwz]
      have hh := HX.out
      have rz : wz.heap[w.heap.size]? = some (.cells #[.pointer (some ⟨bS, 0, none⟩), .slice va vn vc] 86 (0, 0)) := by rw [hwz, heap_setCell_same _ _ _ _ _ _ (heap_setCell_same _ _ _ _ _ _ hh)]; rfl
      have bz : Below w.heap.size w wz := by rw [hwz]; exact (HBR.out.setCell (p := ⟨w.heap.size, 0, none⟩) (Nat.le_refl _) _).setCell (p := ⟨w.heap.size, 1, none⟩) (Nat.le_refl _) _
      have oz : wz.ownsRow (w.heap.size + 2) 3 1 (.slice va vn vc) (cnt T (n + d)) (intVals (plW M T (n + d))) := by rw [hwz]; exact ownsRow_setCell_below (ownsRow_setCell_below HOW.out (by simp) _) (by simp) _
      have t0 := cellO rz 0
      have t1 := cellO rz 1
      simp at t0 t1
      exact bodyPost_ret (v := .agg #[.pointer (some ⟨bS, 0, none⟩), .slice va vn vc]) (by simp [results, Tryz.results31, go_sem, t0, t1]) rfl ⟨_, rfl, owns_mono oz (by omega), bz⟩
    · obtain ⟨d, rfl⟩ : ∃ d, a = n + d := ⟨a - n, by omega⟩
      obtain ⟨-, e2, e3, e4⟩ := skip_all (M := M) (T := T) (n := n) (d := d) (fun j h1 h2 => hno j (by omega) h2)
      rw [← e2, ← e4] at how
      rw [← e3]
      clear e2 e3 e4 hno hna
      obtain ⟨a, ha⟩ : ∃ a, a = n + d := ⟨_, rfl⟩
      rw [← ha] at how haN hTa ⊢
      have HAN := Lib.hid ha
      clear ha hg
      have hS := HST.out.sub hTa
      obtain ⟨c2, c3, cU, cH, -⟩ := HC.out.obj a hS
      have ha1 := (HC.out.lt hS).2.1
      obtain ⟨va, vn, vc, rfl⟩ := owns_slice how
      have y1 := cellO hx1 1
      have f1 : wr.frozen? ⟨w.heap.size + 1, 1, none⟩ = false := by unfold World.frozen?; rw [hx1]; rfl
      simp at y1
      have HOW := Lib.hid how; have HX0' := Lib.hid hx0; have HX1' := Lib.hid hx1; have HBR := Lib.hid hbr; have HTA := Lib.hid hTa; have HUN := Lib.hid cU
      have ksb := KB.out a
      have ck := CL.out a
      have PK := Lib.hid (show plW M T (a + 1) = plW M T a ++ [2 + ksum M T a] by show plW M T a ++ (if T a = true then _ else _) = _; rw [if_pos hTa])
      have CK := Lib.hid (show cnt T (a + 1) = cnt T a + 1 by show cnt T a + (T a).toNat = _; rw [hTa]; rfl)
      have SK := Lib.hid (show ksum M T (a + 1) = ksum M T a + (2 + cz M a) by show ksum M T a + (if T a = true then _ else _) = _; rw [if_pos hTa])
      clear how hx0 hx1 hbr hTa hS cU cH
      obtain ⟨ks, hks⟩ : ∃ ks, ksum M T a = ks := ⟨_, rfl⟩
      rw [hks] at PK SK ksb ⊢
      clear hks
      obtain ⟨pl, hpl⟩ : ∃ pl, 2 + ks = pl := ⟨_, rfl⟩
      rw [hpl] at PK ⊢
      have HPL := Lib.hid hpl
      have hplb : pl ≤ 100000000000000 := by omega
      clear hpl ksb
      go_wp2_with (at_builtin; refine wpList_append_own _ rfl _ _ 22 rfl (w.heap.size + 2) 3 i1 (.int .i64 0) 1 8 Tryz.underlying22 hi1 hy0 hy1 hy2 rfl (by decide) _ _ _ rfl (HOW.out.alloc _) ⟨wr.heap.size, 0, none⟩ 1 1 [.int .i64 (pl : Int)] rfl rfl ?c1 ?c2 ?c3 ?c4 ?c5 ?_)
      case c1 =>
        intro k u hk
        match k, hk with
        | 0, hk => simp at hk; subst hk; simp [Addr.add]
      case c2 => intro u hu; simp at hu; subst hu; rfl
      case c3 => unfold maxLen; omega
      case c4 => omega
      case c5 => simp; omega
      intro v' w5 hown' hgrow _
      obtain ⟨g5, c5, rfl, hg5, -⟩ := World.ownsRow.form hown' (by omega)
      have hx5 : w5.heap[w.heap.size + 1]? = some (.cells #[.pointer (some ⟨bS, 0, none⟩), .slice va vn vc] 86 (0, 0)) := (hgrow.block _ (by simp; omega) (fun e => by have := (HOW.out.lt _ e.symm).1; omega)).trans ((Below.heap_alloc _ _ _ hszr).trans HX1'.out)
      have hx50 : w5.heap[w.heap.size]? = some (.cells #[.pointer none, .slice none 0 0] 86 (0, 0)) := (hgrow.block _ (by simp; omega) (fun e => by have := (HOW.out.lt _ e.symm).1; omega)).trans ((Below.heap_alloc _ _ _ m0).trans HX0'.out)
      have hb5 : Below w.heap.size w w5 := (HBR.out.alloc (by omega) _).grown hgrow (by simp; omega) (fun q hq => by have := (HOW.out.lt q hq).1; omega)
      have ho5 : w5.ownsRow (w.heap.size + 2) 3 1 (.slice (some ⟨g5, 0, none⟩) (cnt T a + 1) c5) (cnt T a + 1) (intVals (plW M T (a + 1))) := by
        rw [PK.out, show intVals (plW M T a ++ [pl]) = intVals (plW M T a) ++ [.int .i64 (pl : Int)] by simp [intVals]]
        exact hown'
      have y5 := cellO hx5 1
      have f5 : w5.frozen? ⟨w.heap.size + 1, 1, none⟩ = false := by unfold World.frozen?; rw [hx5]; rfl
      simp at y5
      have HX5 := Lib.hid hx5; have HX50 := Lib.hid hx50; have HB5 := Lib.hid hb5; have HO5 := Lib.hid ho5
      clear hown' hgrow hx5 hx50 hb5 ho5 y1 f1
      go_upto_region 7 with fail
      obtain ⟨w6, hw6⟩ : ∃ w6, w6 = w5.setCell ⟨w.heap.size + 1, 1, none⟩ (.slice (some ⟨g5, 0, none⟩) (cnt T a + 1) c5) := ⟨_, rfl⟩
      rw [← hw6]
      have hx61 : w6.heap[w.heap.size + 1]? = some (.cells #[.pointer (some ⟨bS, 0, none⟩), .slice (some ⟨g5, 0, none⟩) (cnt T a + 1) c5] 86 (0, 0)) := by rw [hw6]; exact heap_setCell_same _ _ _ _ _ _ HX5.out
      have hx60 : w6.heap[w.heap.size]? = some (.cells #[.pointer none, .slice none 0 0] 86 (0, 0)) := by rw [hw6, Below.heap_setCell _ _ _ _ (by simp)]; exact HX50.out
      have hb6 : Below w.heap.size w w6 := by rw [hw6]; exact HB5.out.setCell (p := ⟨w.heap.size + 1, 1, none⟩) (by simp) _
      have ho6 : w6.ownsRow (w.heap.size + 2) 3 1 (.slice (some ⟨g5, 0, none⟩) (cnt T a + 1) c5) (cnt T a + 1) (intVals (plW M T (a + 1))) := by rw [hw6]; exact ownsRow_setCell_below HO5.out (by simp) _
      have PT := Lib.hid (fun W => ptr_yes (a : Int) (by omega) (by omega) W)
      have HD := Lib.hid (HDD.out w6 a hb6 HTA.out)
      have HX61 := Lib.hid hx61; have HX60 := Lib.hid hx60; have HB6 := Lib.hid hb6; have HO6 := Lib.hid ho6
      clear hw6 hx61 hx60 hb6 ho6 y5 f5
      have CZ := Lib.hid (fun W => cells_any (M a) (hK (M (a + 1))) (hS (M (a + 1))) (hH (M (a + 1))) (hM (M (a + 1))) (by omega) (by have := HC.out.small a; omega) W)
      have hcz : cellsZ (M a) (hK (M (a + 1))) (hS (M (a + 1))) (hH (M (a + 1))) = (cz M a : Int) := by
        have := (cellsZ_bd (M a) (hK (M (a + 1))) (hS (M (a + 1))) (hH (M (a + 1)))).1
        unfold cz; omega
      rw [hcz] at CZ
      clear hcz
      generalize hK (M (a + 1)) = vk at *
      generalize hS (M (a + 1)) = vs at *
      generalize hH (M (a + 1)) = vh at *
      generalize hM (M (a + 1)) = vm at *
      obtain ⟨ca, hca⟩ : ∃ ca, M a = ca := ⟨_, rfl⟩
      rw [hca] at HD CZ
      have hcb := cz_bd M a
      obtain ⟨z, hz⟩ : ∃ z, cz M a = z := ⟨_, rfl⟩
      rw [hz] at CZ SK hcb
      clear hca hz
      go_wp2_with fail
      refine (PT.out _).mono ?_
      rintro e w7 ⟨rfl, rfl⟩
      go_wp2_with fail
      refine HD.out.mono ?_
      rintro e w8 ⟨rfl, hg8⟩
      have HB8 := Lib.hid (HB6.out.trans (hg8.mono HB6.out.size))
      have hm6 := (Array.getElem?_eq_some_iff.1 HX61.out).1
      have HX81 := Lib.hid ((hg8.block _ hm6).trans HX61.out)
      have HX80 := Lib.hid ((hg8.block _ (by omega)).trans HX60.out)
      have HO8 := Lib.hid (owns_later HO6.out hg8)
      clear hg8 HD
      go_upto_region 9 with fail
      obtain ⟨w9, hw9⟩ : ∃ w9, w9 = w8.alloc (.cells #[.int .u64 (ca : Int), .int .i64 vk, .int .i64 vs, .int .u32 vh, .bool vm] 119) := ⟨_, rfl⟩
      rw [← hw9]
      have hx9 : w9.heap[w8.heap.size]? = some (.cells #[.int .u64 (ca : Int), .int .i64 vk, .int .i64 vs, .int .u32 vh, .bool vm] 119 (0, 0)) := by rw [hw9]; exact heap_alloc_new w8 _
      have hg9 : Below w8.heap.size w8 w9 := by rw [hw9]; exact (Below.refl _ w8).alloc (Nat.le_refl _) _
      have HB9 := Lib.hid (HB8.out.trans (hg9.mono HB8.out.size))
      have hm8 := (Array.getElem?_eq_some_iff.1 HX81.out).1
      have HX91 := Lib.hid ((hg9.block _ hm8).trans HX81.out)
      have HX90 := Lib.hid ((hg9.block _ (by omega)).trans HX80.out)
      have HO9 := Lib.hid (owns_later HO8.out hg9)
      have v0 := cellO hx9 0
      have v1 := cellO hx9 1
      have v2 := cellO hx9 2
      have v3 := cellO hx9 3
      have v4 := cellO hx9 4
      simp at v0 v1 v2 v3 v4
      have hm9 := (Array.getElem?_eq_some_iff.1 hx9).1
      clear hw9 hg9 hx9
      go_wp2_with fail
      refine (CZ.out _).mono ?_
      rintro e w10 ⟨rfl, hg10⟩
      have HB10 := Lib.hid (HB9.out.trans (hg10.mono HB9.out.size))
      have hm91 := (Array.getElem?_eq_some_iff.1 HX91.out).1
      have HX101 := Lib.hid ((hg10.block _ hm91).trans HX91.out)
      have HX100 := Lib.hid ((hg10.block _ (by omega)).trans HX90.out)
      have HO10 := Lib.hid (owns_later HO9.out hg10)
      have N10 := Lib.hid (NX.out w10 ((a : Int) + 1) HB10.out)
      clear hg10 v0 v1 v2 v3 v4
      go_wp2_with fail
      refine N10.out.mono ?_
      rintro e w11 ⟨r', rfl, hr', rfl⟩
      have HR' := Lib.hid hr'
      clear hr' N10
      go_wp2_with fail
      go_roundg (N + 1 - (a + 1))
      case measure => rw [HGG.out]; have := HAN.out; omega
      case rel =>
        refine ⟨a + 1, r', _, rfl, by omega, ?_, rfl, HR'.out, HX100.out, HX101.out, by rw [CK.out]; exact HO10.out, HB10.out⟩
        have h1 := SK.out
        have h2 := HPL.out
        rw [h1, show 2 + (ks + (2 + z)) = pl + (2 + z) by omega]
        go_num
end Go.Proofs.YtibopjjicfiimaaGreatDoor
namespace Go.Proofs.YtibopjjicfiimaaGreatDoor
open Go.RowKit
set_option linter.unusedVariables false
/-- the plan: what stays, and where it will stand -/
def PlanAt (w : World) (N bS : Nat) (T : Nat → Bool) (M : Nat → Nat) (v : Value) : Prop :=
  (∃ B2, BitsAt w B2 bS N T) ∧ ∃ B3, w.ownsRow B3 3 1 v (cnt T N) (intVals (plW M T N))
theorem PlanAt.later {w w' : World} {N bS : Nat} {T : Nat → Bool} {M : Nat → Nat} {v : Value} (h : PlanAt w N bS T M v) (hb : Below w.heap.size w w') : PlanAt w' N bS T M v := by
  obtain ⟨⟨B2, h1⟩, B3, h2⟩ := h
  exact ⟨⟨B2, h1.later hb⟩, B3, owns_later h2 hb⟩
theorem cnt_lt {T : Nat → Bool} {a N : Nat} (ha : a < N) (hT : T a = true) : cnt T a < cnt T N := by
  have key : ∀ d, cnt T (a + 1) ≤ cnt T (a + 1 + d) := fun d => by
    induction d with
    | zero => exact Nat.le_refl _
    | succ d ih => exact Nat.le_trans ih (Nat.le_add_right _ _)
  have h1 := key (N - (a + 1))
  rw [show a + 1 + (N - (a + 1)) = N by omega] at h1
  have h2 : cnt T (a + 1) = cnt T a + 1 := by show cnt T a + (T a).toNat = _; rw [hT]; rfl
  omega
theorem PlanAt.cell {w : World} {N bS a : Nat} {T : Nat → Bool} {M : Nat → Nat} {v : Value} (h : PlanAt w N bS T M v) (ha : a < N) (hT : T a = true) :
    ∃ g cap, v = .slice (some ⟨g, 0, none⟩) (cnt T N) cap ∧ g < w.heap.size ∧ w.cell? ⟨g, cnt T a, none⟩ = some (.int .i64 ((2 + ksum M T a : Nat) : Int)) := by
  obtain ⟨-, B3, h2⟩ := h
  have hl := cnt_lt ha hT
  obtain ⟨g, cap, rfl, h3, h4⟩ := World.ownsRow.form h2 (by omega)
  have hc := h2.cellAt (cnt T a) (by omega)
  have hp := plW_at (M := M) ha hT
  rw [show (intVals (plW M T N))[cnt T a]? = some (.int .i64 ((2 + ksum M T a : Nat) : Int)) by unfold intVals; rw [List.getElem?_map, hp]; rfl] at hc
  exact ⟨g, cap, rfl, h4, hc⟩
set_option maxRecDepth 100000 in
set_option maxHeartbeats 1600000 in
theorem turn_any (N bS x : Nat) (S T : Nat → Bool) (M : Nat → Nat) (R : List Nat) (v : Value) (w : World) (c : CollOK N S M) (hs : Stay S M R T) (hP : PlanAt w N bS T M v) (hx : x < 18446744073709551616) :
    Calls Tryz.prog 35 #[.agg #[.pointer (some ⟨bS, 0, none⟩), v], .int .u64 (x : Int)] w fun e w' => e = .returned (.int .u64 (turnM M T x : Int)) ∧ Below w.heap.size w w' := by
  obtain ⟨va, vn, vc, rfl⟩ : ∃ va vn vc, v = .slice va vn vc := by obtain ⟨-, B3, h2⟩ := hP; exact owns_slice h2
  have hN := c.most
  obtain ⟨w1, hw1⟩ : ∃ w1, w1 = w.alloc (.cells #[.pointer (some ⟨bS, 0, none⟩), .slice va vn vc] 86) := ⟨_, rfl⟩
  have hx1 : w1.heap[w.heap.size]? = some (.cells #[.pointer (some ⟨bS, 0, none⟩), .slice va vn vc] 86 (0, 0)) := by rw [hw1]; exact heap_alloc_new w _
  have hb1 : Below w.heap.size w w1 := by rw [hw1]; exact (Below.refl _ w).alloc (Nat.le_refl _) _
  have hP1 := hP.later hb1
  have HW1 := Lib.hid hw1
  by_cases hobj : x % 2 = 0 ∧ x ≠ 0 ∧ x < 33554432
  · obtain ⟨a, rfl⟩ : ∃ a, x = a * 2 := ⟨x / 2, by omega⟩
    have AT := at_yes ((a * 2 : Nat) : Int) (by omega) (by omega) (by omega) w1
    rw [show ((a * 2 : Nat) : Int) / 2 = (a : Int) by omega] at AT
    have IS := is_any ((a * 2 : Nat) : Int) (by omega) (by omega) w1
    rw [decide_eq_false (show ¬ ((a * 2 : Nat) : Int) % 2 = 1 by omega)] at IS
    obtain ⟨⟨B2, hbit⟩, -⟩ := id hP1
    have HA := has_any B2 bS N T (a : Int) w1 hbit
    rw [show (decide (0 ≤ (a : Int)) && T (a : Int).toNat) = T a by simp] at HA
    have h0 : ¬ ((a * 2 : Nat) : Int) = 0 := by omega
    have hTN : T a = true → a < N := fun h => (c.lt (hs.sub h)).1
    have ht : turnM M T (a * 2) = if T a = true then (2 + ksum M T a) * 2 else a * 2 := by
      unfold turnM
      rw [show a * 2 / 2 = a by omega]
      by_cases h : T a = true
      · rw [if_pos ⟨hobj, h⟩, if_pos h]
      · rw [if_neg (fun hh => h hh.2), if_neg h]
    rw [ht]
    have y0 := cellO hx1 0
    have y1 := cellO hx1 1
    simp at y0 y1
    have ha1 : a < 16777216 := by omega
    have ha0 : a ≠ 0 := by omega
    rw [show ((a * 2 : Nat) : Int) = (a : Int) * 2 by omega] at AT IS h0 ⊢
    have h00 : ((a : Int) * 2 == 0) = false := by rw [beq_eq_false_iff_ne]; exact h0
    have ATH := Lib.hid AT; have ISH := Lib.hid IS; have HAH := Lib.hid HA; have HP1 := Lib.hid hP1; have HB1 := Lib.hid hb1
    have HBIT := Lib.hid hbit; have HC := Lib.hid c; have HST := Lib.hid hs
    have HLB := Lib.hid (Array.getElem?_eq_some_iff.1 hx1).1
    clear AT IS HA hP1 hb1 hbit hP hx hobj ht hx1 c hs
    cases hTa : T a with
    | false =>
      rw [hTa] at HAH
      clear hTa hTN hw1
      go_enter Tryz.func35, Tryz.ntmps35
      go_upto_region 1 with fail
      rw [← HW1.out]
      go_wp2_with fail
      refine ATH.out.mono ?_
      rintro e w2 ⟨rfl, rfl⟩
      go_wp2_with fail
      refine ISH.out.mono ?_
      rintro e w3 ⟨rfl, rfl⟩
      go_wp2_with fail
      refine HAH.out.mono ?_
      rintro e w4 ⟨rfl, hg4⟩
      have HG4 := Lib.hid (HB1.out.trans (hg4.mono HB1.out.size))
      clear hg4
      go_wp2_with fail
      exact bodyPost_ret (v := .int .u64 ((a : Int) * 2)) (by simp [results, Tryz.results35, go_sem]) rfl ⟨by simp, HG4.out⟩
    | true =>
      rw [hTa] at HAH
      have haN := hTN hTa
      obtain ⟨g, cap, hv, hgl, hcell⟩ := HP1.out.cell haN hTa
      have HGL := Lib.hid hgl
      injection hv with e1 e2 e3
      subst e1 e2 e3
      have hca := cnt_lt haN hTa
      have BL := Lib.hid (fun n W (hW : Below w1.heap.size w1 W) => below_any B2 bS N T (a : Int) (W.drewN n) ((HBIT.out.later hW).of_heap rfl))
      have hclip : clipN N (a : Int) = a := by unfold clipN; omega
      rw [hclip] at BL
      have hks : 2 + ksum M T a < 16777216 := by
        have h1 := ksum_obj (M := M) haN hTa
        have h2 := Stay.room HC.out HST.out
        omega
      obtain ⟨ks, hk⟩ : ∃ ks, 2 + ksum M T a = ks := ⟨_, rfl⟩
      rw [hk] at hcell hks
      have hk1 : 1 ≤ ks := by omega
      rw [hk, if_pos rfl]
      have PT := Lib.hid (fun W => (ptr_yes (ks : Int) (by omega) (by omega) W).mono fun e w' (hh : _ ∧ _) => (⟨hh.1, hh.2.symm⟩ : e = .returned (.tuple #[.int .u64 ((ks : Int) * 2), .int .i64 0]) ∧ w' = W))
      have HCELL := Lib.hid hcell
      clear hTa hTN hw1 hk hcell haN hclip
      generalize cnt T a = ca at *
      generalize cnt T N = cN at *
      go_enter Tryz.func35, Tryz.ntmps35
      go_upto_region 1 with fail
      rw [← HW1.out]
      go_wp2_with fail
      refine ATH.out.mono ?_
      rintro e w2 ⟨rfl, rfl⟩
      go_wp2_with fail
      refine ISH.out.mono ?_
      rintro e w3 ⟨rfl, rfl⟩
      go_wp2_with fail
      refine HAH.out.mono ?_
      rintro e w4 ⟨rfl, hg4⟩
      have HG4 := Lib.hid (HB1.out.trans (hg4.mono HB1.out.size))
      have z0 := (hg4.cell (p := ⟨w.heap.size, 0, none⟩) HLB.out).trans y0
      have z1 := (hg4.cell (p := ⟨w.heap.size, 1, none⟩) HLB.out).trans y1
      have z2 := (hg4.cell (p := ⟨g, ca, none⟩) HGL.out).trans HCELL.out
      have D1 := Lib.hid (fun n => BL.out n w4 hg4)
      clear hg4 y0 y1
      go_upto_region 4 with fail
      go_quiet (first | (go_at_call 77; exact Calls.quiet_of_same (D1.out _)) | (go_at_call 33; exact Calls.quiet_of_same (PT.out _)))
      all_goals try (exfalso; go_light; omega)
      go_wp2_with fail
      have hbz : Below w4.heap.size w4 (w4.drewN nq) := ⟨rfl, rfl, rfl, Nat.le_refl _, fun _ _ => rfl⟩
      exact bodyPost_ret (v := .int .u64 ((ks : Int) * 2)) (by simp [results, Tryz.results35, go_sem]) rfl ⟨by simp, HG4.out.trans (hbz.mono HG4.out.size)⟩
  · have AT := at_no (x : Int) (by omega) (by omega) (by omega) w1
    have ht : turnM M T x = x := by unfold turnM; rw [if_neg (fun hh => hobj hh.1)]
    rw [ht]
    have ATH := Lib.hid AT; have HB1 := Lib.hid hb1
    have IS := Lib.hid (is_any (x : Int) (by omega) (by omega) w1)
    clear AT hb1 hP1 hP ht hx1 c hs
    by_cases h0 : x = 0
    · subst h0
      clear hw1 hobj
      go_enter Tryz.func35, Tryz.ntmps35
      go_upto_region 1 with fail
      rw [← HW1.out]
      go_wp2_with fail
      refine ATH.out.mono ?_
      rintro e w2 ⟨rfl, rfl⟩
      go_wp2_with fail
      exact bodyPost_ret (v := .int .u64 0) (by simp [results, Tryz.results35, go_sem]) rfl ⟨by simp, HB1.out⟩
    · have h01 : ¬ (x : Int) = 0 := by omega
      have h00 : ((x : Int) == 0) = false := by rw [beq_eq_false_iff_ne]; exact h01
      clear hw1 hobj h0
      obtain ⟨q, hq⟩ : ∃ q : Bool, decide ((x : Int) % 2 = 1) = q := ⟨_, rfl⟩
      rw [hq] at IS
      clear hq
      go_enter Tryz.func35, Tryz.ntmps35
      go_upto_region 1 with fail
      rw [← HW1.out]
      go_wp2_with fail
      refine ATH.out.mono ?_
      rintro e w2 ⟨rfl, rfl⟩
      go_wp2_with fail
      refine IS.out.mono ?_
      rintro e w3 ⟨rfl, rfl⟩
      cases q with
      | false =>
        go_wp2_with fail
        exact bodyPost_ret (v := .int .u64 (x : Int)) (by simp [results, Tryz.results35, go_sem]) rfl ⟨by simp, HB1.out⟩
      | true =>
        go_wp2_with fail
        exact bodyPost_ret (v := .int .u64 (x : Int)) (by simp [results, Tryz.results35, go_sem]) rfl ⟨by simp, HB1.out⟩
end Go.Proofs.YtibopjjicfiimaaGreatDoor
