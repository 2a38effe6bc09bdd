/- A town's memory while the law lays it: one more object. A town's memory while the law lays it: a list, a class by its number, a symbol. -/
import Derived.Test.YtibopjjicfiimaaGreatDoorTownI
import Derived.Deep.AppendLies
import Derived.Deep.CutRange
import Derived.BigRegion
import Derived.Test.YtibopjjicfiimaaGreatDoorSoM
import Derived.Deep.RegionWith
import Derived.Deep.RegionHeld3
namespace Go.Proofs.YtibopjjicfiimaaGreatDoor
open Go.RowKit
set_option linter.unusedVariables false
theorem step_append_ownT {P : Program} {ops : Array Oper} {o : Oper} {a : Act} {w : World} {K : Act → World → Prop} {Q : Exit → Act → World → Prop} {E : Prop}
    (hg : o.guard = none) (s x : Operand) (t : TypeId) (hop : o.op = Op.call { callee := Callee.builtin Builtin.append, args := #[s, x], argTypes := #[t, t] })
    (base : Nat) (e : TypeId) (i : TypeInfo) (z : Value) (size bytes : Nat) (ht : P.underlying t = some (.slice e)) (hi : P.info? e = some i) (hz : i.zero = some z)
    (hsize : i.size = size) (hby : i.bytes = bytes) (hzs : z.cells.size = size) (hsz : 0 < size)
    (v : Value) (n : Nat) (xs : List Value) (hs : a.eval s = v) (hown : w.ownsRow base e size v n xs)
    (ad : Addr) (m c : Nat) (news : List Value) (hx : a.eval x = .slice (some ad) m c) (hl : news.length = m * size) (hnews : ∀ j u, news[j]? = some u → w.cell? (ad.add j) = some u) (h1 : ∀ u ∈ news, u.oneCell' = true)
    (h63 : n + m ≤ maxLen) (hbytes : (n + m) * bytes ≤ 140737488355328) (hbase : base ≤ w.heap.size)
    (h : ∀ v' w', w'.ownsRow base e size v' (n + m) (xs ++ news) → w.grownBy w' v.ownBlock → K (a.put o.dst v') w') :
    if Region.wanted o (yielded ops a.tmps) = true then Oper.wp P o a w K Q else E := by
  have hw : Region.wanted o (yielded ops a.tmps) = true := by simp [Region.wanted, hg]
  rw [if_pos hw]
  exact wp_append_own w s x t hop base e i z size bytes ht hi hz hsize hby hzs hsz v n xs hs hown ad m c news hx hl hnews h1 h63 hbytes hbase fun v' w' h2 h3 _ => h v' w' h2 h3
/-- a row of numbers that the call owns -/
theorem numSl_bytes {w : World} {B C : Nat} {v : Value} {l : List UInt8} (h : OwnsB w B v l) (hC : C ≤ B) : NumSl w 5 .u8 C 256 l.length v := by
  obtain ⟨h1, ⟨rfl, h2⟩ | ⟨g, cap, cur, rfl, h2, h3, h4, h5, h6, h7⟩⟩ := h
  · exact ⟨none, 0, by rw [h2], by omega, by unfold maxLen; omega, fun _ => rfl, Or.inl rfl⟩
  · refine ⟨_, cap, rfl, h4, h5, fun h => (by simp at h), Or.inr ⟨g, rfl, by omega, cur, h3, fun i hi => ?_⟩⟩
    have h8 : (cur.toList.take (l.length * 1))[i]? = (Lib.byteCells l)[i]? := by rw [h7]
    rw [List.getElem?_take, if_pos (by omega), Array.getElem?_toList] at h8
    refine ⟨(l[i]'hi).toNat, (l[i]'hi).toNat_lt, ?_⟩
    rw [h8]
    unfold Lib.byteCells
    rw [List.getElem?_map, List.getElem?_eq_getElem hi]
    rfl
theorem numSl_words {w : World} {B C n : Nat} {v : Value} {l : List Nat} (h : w.ownsRow B 30 1 v n (wordVals l)) (hl : SmallW l) (hC : C ≤ B) : NumSl w 30 .u64 C 18446744073709551616 n v := by
  obtain ⟨h1, ⟨rfl, h2⟩ | ⟨g, cap, cur, rfl, h2, h3, h4, h5, h6, h7⟩⟩ := h
  · exact ⟨none, 0, by rw [h2], by omega, by unfold maxLen; omega, fun _ => rfl, Or.inl rfl⟩
  · rw [wordVals_length, Nat.mul_one] at h1
    refine ⟨_, cap, rfl, h4, h5, fun h => (by simp at h), Or.inr ⟨g, rfl, by omega, cur, h3, fun i hi => ?_⟩⟩
    have h8 : (cur.toList.take (n * 1))[i]? = (wordVals l)[i]? := by rw [h7]
    rw [List.getElem?_take, if_pos (by omega), Array.getElem?_toList] at h8
    have hil : i < l.length := by omega
    refine ⟨l[i], hl _ (List.getElem_mem hil), ?_⟩
    rw [h8]
    unfold wordVals
    rw [List.getElem?_map, List.getElem?_eq_getElem hil]
    rfl
theorem numSl_none (w : World) (T : TypeId) (q : IntKind) (C top : Nat) : NumSl w T q C top 0 (.slice none 0 0) := ⟨none, 0, rfl, Nat.le_refl _, by unfold maxLen; omega, fun _ => rfl, Or.inl rfl⟩
theorem own_neS {w : World} {B e n b T size : Nat} {v : Value} {xs : List Value} {c : Array Value} (h : w.ownsRow B e size v n xs) (hb : w.heap[b]? = some (.cells c T (0, 0))) (hT : e ≠ T) : some b ≠ v.ownBlock := by
  intro hh
  obtain ⟨-, ⟨rfl, -⟩ | ⟨g, cap, cur, rfl, -, hg, -⟩⟩ := h
  · simp [Value.ownBlock] at hh
  · simp [Value.ownBlock] at hh
    subst hh
    rw [hg] at hb
    simp only [Option.some.injEq, Obj.cells.injEq] at hb
    exact hT hb.2.1
theorem owns_setOther {w : World} {B e n p j size : Nat} {v u : Value} {xs : List Value} (h : w.ownsRow B e size v n xs) (hp : some p ≠ v.ownBlock) : (w.setCell ⟨p, j, none⟩ u).ownsRow B e size v n xs := by
  obtain ⟨h1, h2 | ⟨g, cap, cur, rfl, h2, h3, h4⟩⟩ := h
  · exact ⟨h1, .inl h2⟩
  · refine ⟨h1, .inr ⟨g, cap, cur, rfl, h2, (Below.heap_setCell _ _ _ _ ?_).trans h3, h4⟩⟩
    intro e
    exact hp (by simp [Value.ownBlock]; exact e.symm)
theorem KpN.setT {w : World} {p j : Nat} {u : Value} {c : Array Value} {T : TypeId} (h : w.heap[p]? = some (Obj.cells c T (0, 0))) (h1 : T ≠ 30) (h2 : T ≠ 5) : KpN w (w.setCell ⟨p, j, none⟩ u) :=
  KpN.of_same fun b c' T' hb hT => Below.heap_setCell _ _ _ _ fun e => by
    have e : b = p := e
    subst e
    rw [h] at hb
    simp only [Option.some.injEq, Obj.cells.injEq] at hb
    obtain ⟨-, rfl, -⟩ := hb
    exact hT.elim h1 h2
set_option maxRecDepth 100000 in
set_option maxHeartbeats 3200000 in
theorem tadd_any (C P sb : Nat) (la : Option Addr) (ln lc root : Nat) (L : List Sg) (w : World) (h : Twn C P sb w la ln lc root L) (k : Int) (n : Nat) (wv bv : Value) (bs : List UInt8) (hk : 0 ≤ k ∧ k ≤ 2)
    (hw : NumSl w 30 .u64 C 18446744073709551616 (if k = 2 then 0 else n) wv) (hb : BytesAt w bv bs) (hbl : bs.length = if k = 2 then n else 0) (h8 : k = 2 → 0 < n % 8) (hu : usedS L + 2 + cellsS (0, k, n) ≤ 3000) :
    Calls Tryz.prog 12 #[.pointer (some ⟨P, 0, none⟩), .int .i64 k, wv, bv] w fun e w' => ∃ (x : Nat) (la' : Option Addr) (lc' : Nat), e = .returned (.int .u64 (x : Int)) ∧ x = 2 * usedS L ∧ Twn C P sb w' la' (ln + 1) lc' root (L ++ [(usedS L, k, n)]) ∧ Fr (fun q => q = P) w w' ∧ Below C w w' := by
  obtain ⟨i0, hi0, hz0, hz1, hz2⟩ := info_parts objInfo
  have hn24 : n ≤ 24000 := by
    unfold cellsS at hu
    dsimp only at hu
    split at hu <;> omega
  have hCw : C ≤ w.heap.size := Nat.le_of_lt (Nat.lt_of_le_of_lt h.hP h.lt)
  have hPl := h.lt
  have hCP := h.hP
  obtain ⟨hlen, hlc, hcc, -⟩ := h.lst.len
  have hln : ln ≤ 1500 := by
    obtain ⟨os, h1, h2⟩ := id h.lst
    have h3 := two_each os
    have h4 := h.fit
    rw [← h1, usedS_os] at h4
    rw [hlen, ← h1, List.length_map]
    omega
  obtain ⟨wa, wc, rfl, hwc1, hwc2, -⟩ := id hw
  obtain ⟨ba, bc, rfl, hbc1, hbc2, -⟩ := id hb
  obtain ⟨wn, hwn⟩ : ∃ wn, (if k = 2 then 0 else n) = wn := ⟨_, rfl⟩
  obtain ⟨bn, hbn⟩ : ∃ bn, bs.length = bn := ⟨_, rfl⟩
  have hbn2 : bn = if k = 2 then n else 0 := by rw [← hbn]; exact hbl
  have HN := Lib.hid (show (k = 2 → bn = n) ∧ (¬ k = 2 → wn = n) ∧ wn ≤ 24000 ∧ bn ≤ 24000 from ⟨fun h => by rw [hbn2, if_pos h], fun h => by rw [← hwn, if_neg h], by rw [← hwn]; split <;> omega, by rw [hbn2]; split <;> omega⟩)
  have HWS := Lib.hid (show NumSl w 30 .u64 C 18446744073709551616 wn (.slice wa wn wc) from by rw [← hwn]; rw [hwn] at hw ⊢; exact hw)
  have HBS := Lib.hid hb
  have HT := Lib.hid h
  have HWN := Lib.hid hwn; have HBN := Lib.hid hbn; have HBN2 := Lib.hid hbn2; have HLN := Lib.hid hlen; have HU := Lib.hid hu; have H8 := Lib.hid h8
  have USED := Lib.hid (tused_any C la ln lc L w h.lst h.fit)
  have CP := Lib.hid (fun W (hW : Below w.heap.size w W) => copy_any (.slice ba bs.length bc) bs W (hb.later hW) (by rw [hbl]; split <;> omega))
  rw [hbn] at CP HBS
  rw [hwn, hbn]
  rw [hwn] at hwc1
  rw [hbn] at hbc1
  have y0 := cellO h.blk 0
  have y1 := cellO h.blk 1
  have y2 := cellO h.blk 2
  simp at y0 y1 y2
  unfold maxLen at hwc2 hbc2 hcc
  have hu2 : usedS L ≤ 3000 := h.fit
  obtain ⟨us, hus⟩ : ∃ us, usedS L = us := ⟨_, rfl⟩
  rw [hus] at USED hu2 ⊢
  have HUS := Lib.hid hus
  clear h hw hb hbl h8 hwn hbn hbn2 hlen hu hus
  go_enter Tryz.func12, Tryz.ntmps12
  go_upto_if 14 with fail
  go_cut [9] from 13 to 16 (fun s9 wx => wx = w ∧ s9 = .int .i64 (n : Int))
  case first =>
    by_cases hk2 : k = 2
    · have h1 := HN.out.1 hk2
      subst hk2 h1
      go_wp2_with fail
      go_meet
      exact ⟨rfl, rfl⟩
    · have h1 := HN.out.2.1 hk2
      have hkb : (k == 2) = false := by simpa using hk2
      subst h1
      go_wp2_with fail
      go_meet
      exact ⟨rfl, rfl⟩
  case rest =>
  obtain ⟨hwc, rfl⟩ := hcut
  obtain rfl := hwc.symm
  go_wp2_with fail
  refine USED.out.mono ?_
  rintro e w2 ⟨rfl, hg2⟩
  have G2 := Lib.hid hg2
  have hs2 := hg2.size
  clear hg2 USED
  go_wp2_with fail
  refine (CP.out w2 G2.out).mono ?_
  rintro e w3 ⟨cv, rfl, hoc, hg3⟩
  have hbs3 := HBN.out
  obtain ⟨ca, cc, rfl⟩ := ownsB_shape hoc
  rw [hbs3]
  rw [hbs3] at hoc
  have G3 := Lib.hid (G2.out.trans (hg3.mono G2.out.size)); have HOC := Lib.hid hoc
  have hs3 := hg3.size
  clear hg3 hoc hbs3
  obtain ⟨w4, hw4⟩ : ∃ w4, w4 = w3.alloc (.cells #[.int .i64 (us : Int), .int .u64 4, .int .i64 k, .int .i64 (n : Int), .int .u32 0, .bool false, .slice wa wn wc, .slice ca bn cc] 65) := ⟨_, rfl⟩
  have hx4 : w4.heap[w3.heap.size]? = some (.cells #[.int .i64 (us : Int), .int .u64 4, .int .i64 k, .int .i64 (n : Int), .int .u32 0, .bool false, .slice wa wn wc, .slice ca bn cc] 65 (0, 0)) := by rw [hw4]; exact heap_alloc_new w3 _
  have hg4 : Below w3.heap.size w3 w4 := by rw [hw4]; exact (Below.refl _ _).alloc (Nat.le_refl _) _
  have hz4 := (Array.getElem?_eq_some_iff.1 hx4).1
  have hP4 := ((G3.out.trans (hg4.mono G3.out.size)).block P hPl).trans HT.out.blk
  have HX4 := Lib.hid hx4; have G4 := Lib.hid hg4; have HP4 := Lib.hid hP4
  go_upto_region 5 with fail
  rw [← hw4]
  clear hw4 hx4 hg4 y0 y1 y2
  have y1 := cellO hP4 1
  have fP : w4.frozen? ⟨P, 1, none⟩ = false := by unfold World.frozen?; rw [hP4]; rfl
  have c0 := cellO HX4.out 0
  have c1 := cellO HX4.out 1
  have c2 := cellO HX4.out 2
  have c3 := cellO HX4.out 3
  have c4 := cellO HX4.out 4
  have c5 := cellO HX4.out 5
  have c6 := cellO HX4.out 6
  have c7 := cellO HX4.out 7
  simp at y1 c0 c1 c2 c3 c4 c5 c6 c7
  obtain ⟨z, hz⟩ : ∃ z, w3.heap.size = z := ⟨_, rfl⟩
  have HZ := Lib.hid hz
  rw [hz] at hz4 c0 c1 c2 c3 c4 c5 c6 c7 HX4 hs3 ⊢
  have hPz : P < z := by omega
  have hP4l : P < w4.heap.size := by omega
  obtain ⟨os, xs, hos, hin, hlo, hown, hxl, hcs⟩ := HT.out.lst.owns
  obtain ⟨OB, hOB⟩ : ∃ OB : List Value, OB = [.int .i64 (us : Int), .int .u64 4, .int .i64 k, .int .i64 (n : Int), .int .u32 0, .bool false, .slice wa wn wc, .slice ca bn cc] := ⟨_, rfl⟩
  obtain ⟨W5, hW5⟩ : ∃ W5, W5 = (w4.alloc (.cells #[.int .i64 (us : Int), .int .u64 4, .int .i64 k, .int .i64 (n : Int), .int .u32 0, .bool false, .slice wa wn wc, .slice ca bn cc] 65)).drew := ⟨_, rfl⟩
  have G5 : Below w4.heap.size w4 W5 := by rw [hW5]; exact ((Below.refl _ _).alloc (Nat.le_refl _) _).drew
  have H34 := KpN.below G4.out
  have G45 : Below w.heap.size w w4 := G3.out.trans (G4.out.mono G3.out.size)
  have gw5 : Below w.heap.size w W5 := G45.trans (G5.mono G45.size)
  have A0 : W5.ownsRow C 65 8 (.slice la ln lc) ln xs := owns_later hown gw5
  have hP5 := (G5.block P hP4l).trans HP4.out
  have hZ5 := (G5.block z hz4).trans HX4.out
  have FIN := Lib.hid (show ∀ (v7 : Value) (w7 : World), w7.ownsRow C 65 8 v7 (ln + 1) (xs ++ OB) → W5.grownBy w7 (Value.slice la ln lc).ownBlock →
      (w7.cell? ⟨P, 1, none⟩ = some (.slice la ln lc) ∧ w7.frozen? ⟨P, 1, none⟩ = false ∧ (w7.setCell ⟨P, 1, none⟩ v7).cell? ⟨z, 0, none⟩ = some (.int .i64 (us : Int))) ∧ ∃ la' lc', Twn C P sb (w7.setCell ⟨P, 1, none⟩ v7) la' (ln + 1) lc' root (L ++ [(us, k, n)]) ∧ Fr (fun q => q = P) w (w7.setCell ⟨P, 1, none⟩ v7) ∧ Below C w (w7.setCell ⟨P, 1, none⟩ v7) by
    intro v7 w7 hown7 hgr
    have hP7 := (hgr.block P (by have := G5.size; omega) (own_neS A0 hP5 (by decide))).trans hP5
    have hZ7 := (hgr.block z (by have := G5.size; omega) (fun e => by have := (hown.lt z e.symm).2; omega)).trans hZ5
    have hPn : P ≠ z := by omega
    have n7 : some P ≠ v7.ownBlock := own_neS hown7 hP7 (by decide)
    have hown8 := owns_setOther (p := P) (j := 1) (u := v7) hown7 n7
    have k57 : KpN W5 (w7.setCell ⟨P, 1, none⟩ v7) := (KpN.grownO A0 hgr).trans (KpN.setT hP7 (by decide) (by decide))
    have kw : KpN w (w7.setCell ⟨P, 1, none⟩ v7) := (KpN.below gw5).trans k57
    have hP8 := heap_setCell_same _ _ 1 _ _ v7 hP7
    have hus : us = usedO os := by rw [← HUS.out, ← hos, usedS_os]
    have ho : ObOK (w7.setCell ⟨P, 1, none⟩ v7) C ⟨us, 4, k, n, false⟩ (.slice wa wn wc) (.slice ca bn cc) := by
      refine ⟨hk, ⟨by show 4 % 2 = 0; decide, by show (4 : Nat) ≠ 0; decide, by show (4 : Nat) < _; decide⟩, ⟨by show n ≤ _; omega, H8.out⟩, ?_, ?_⟩
      · show NumSl _ _ _ _ _ (if k = 2 then 0 else n) _
        rw [HWN.out]
        exact HWS.out.keepWN kw
      · show NumSl _ _ _ _ _ (if k = 2 then n else 0) _
        rw [← HBN2.out, ← HBN.out]
        have h3 := numSl_bytes (C := C) HOC.out (by omega)
        rw [HBN.out] at h3 ⊢
        exact h3.keepBN ((H34.trans (KpN.below G5)).trans k57)
    obtain ⟨b', lc', rfl, ht⟩ := TownL.push (w' := w7.setCell ⟨P, 1, none⟩ v7) (o := ⟨us, 4, k, n, false⟩) (wv := .slice wa wn wc) (bv := .slice ca bn cc) hin hlo hxl (fun i o hi => by
      obtain ⟨wv, bv, k1, k2⟩ := hcs i o hi
      exact ⟨wv, bv, k1.keepN kw, k2⟩) ho hus (by rw [hOB] at hown8; exact hown8)
    refine ⟨⟨(cellO hP7 1).trans rfl, by unfold World.frozen?; rw [hP7]; rfl, ?_⟩, some ⟨b', 0, none⟩, lc', ⟨hCP, hP8, ?_, ?_⟩, ?_, ?_⟩
    · rw [cellO ((Below.heap_setCell _ _ _ _ (fun e => hPn e.symm)).trans hZ7) 0]; rfl
    · rw [hos] at ht; exact ht
    · rw [usedS_snoc, HUS.out]
      have h1 := HU.out
      have h2 : cellsS (us, k, n) = cellsS (0, k, n) := rfl
      rw [HUS.out] at h1
      omega
    · exact ((Fr.below gw5).trans (Fr.grownO A0 hgr)).trans (Fr.set rfl)
    · exact ((gw5.mono hCw).grown hgr (by have := gw5.size; omega) (fun q hq => (hown.lt q hq).1)).setCell (p := ⟨P, 1, none⟩) hCP _)
  have A1 := Lib.hid (show ∀ j u, OB[j]? = some u → W5.cell? ((⟨w4.heap.size, 0, none⟩ : Addr).add j) = some u by
    intro j u hj
    rw [hOB] at hj
    rw [hW5]
    match j, hj with
    | 0, hj => simp at hj; subst hj; simp [Addr.add]
    | 1, hj => simp at hj; subst hj; simp [Addr.add]
    | 2, hj => simp at hj; subst hj; simp [Addr.add]
    | 3, hj => simp at hj; subst hj; simp [Addr.add]
    | 4, hj => simp at hj; subst hj; simp [Addr.add]
    | 5, hj => simp at hj; subst hj; simp [Addr.add]
    | 6, hj => simp at hj; subst hj; simp [Addr.add]
    | 7, hj => simp at hj; subst hj; simp [Addr.add])
  have A2 := Lib.hid (show ∀ u ∈ OB, u.oneCell' = true by rw [hOB]; intro u hu; simp at hu; rcases hu with rfl | rfl | rfl | rfl | rfl | rfl | rfl | rfl <;> rfl)
  have A3 := Lib.hid (show ln + 1 ≤ maxLen by unfold maxLen; omega)
  have A4 := Lib.hid (show (ln + 1) * 88 ≤ 140737488355328 by omega)
  have A5 := Lib.hid (show C ≤ W5.heap.size by have := gw5.size; omega)
  have A6 := Lib.hid (show OB.length = 1 * 8 by rw [hOB]; rfl)
  have A0h := Lib.hid A0
  rw [hW5] at A0h A1 A5 FIN
  clear hcs hown hin hlo hxl hos A0 hP5 hZ5 gw5 G45 H34 G5 hP4
  go_cut [] from 29 to 40 (fun wx => wx.cell? ⟨z, 0, none⟩ = some (.int .i64 (us : Int)) ∧ ∃ la' lc', Twn C P sb wx la' (ln + 1) lc' root (L ++ [(us, k, n)]) ∧ Fr (fun q => q = P) w wx ∧ Below C w wx)
  case first =>
    go_region_law (refine step_append_ownT rfl (.tmp 34) (.tmp 36) 26 rfl C 65 i0 _ 8 88 Tryz.underlying26 hi0 hz0 hz1 hz2 rfl (by decide) (.slice la ln lc) _ _ (by simp [Act.eval]) A0h.out ⟨w4.heap.size, 0, none⟩ 1 1 OB (by simp [Act.eval]) A6.out A1.out A2.out A3.out A4.out A5.out ?_
                   intro v7 w7 hown7 hgr7
                   obtain ⟨va7, vn7, vc7, rfl⟩ := owns_slice hown7
                   obtain ⟨⟨r0, r1, r2⟩, hk7⟩ := FIN.out _ w7 hown7 hgr7
                   have HK7 := Lib.hid hk7
                   clear hown7 hgr7 hk7)
    all_goals (go_wp2_with fail)
    all_goals go_meet
    all_goals exact ⟨r2, HK7.out⟩
  case rest =>
  obtain ⟨p0, la', lc', t7, f7, b7⟩ := hcut
  have HT7 := Lib.hid t7; have HF7 := Lib.hid f7; have HB7 := Lib.hid b7
  clear t7 f7 b7 c0 c1 c2 c3 c4 c5 c6 c7 y1 fP
  go_wp2_with fail
  go_ret
  exact ⟨2 * us, la', lc', by go_num, rfl, HT7.out, HF7.out, HB7.out⟩
end Go.Proofs.YtibopjjicfiimaaGreatDoor
namespace Go.Proofs.YtibopjjicfiimaaGreatDoor
open Go.RowKit Go.Maps
set_option linter.unusedVariables false
theorem ones_words (ys : List Nat) : ∀ u ∈ wordVals ys, u.oneCell' = true := by
  intro u hu
  simp only [wordVals, List.mem_map] at hu
  obtain ⟨x, _, rfl⟩ := hu
  rfl
/-- an append of numbers leaves numbers numbers -/
theorem run_append_kp {w : World} (base : Nat) (ty : TypeId) (i : TypeInfo) (hi : Tryz.prog.info? 30 = some i) (hz : i.zero = some (.int .u64 0)) (hsize : i.size = 1) (hby : i.bytes = 8)
    (v : Value) (n : Nat) (xs : List Value) (hown : w.ownsRow base 30 1 v n xs)
    (a : Addr) (m c : Nat) (ys : List Nat) (hl : ys.length = m) (hy : SmallW ys) (hnews : ∀ j u, (wordVals ys)[j]? = some u → w.cell? (a.add j) = some u) (h63 : n + m ≤ 10000) (hbase : base ≤ w.heap.size) :
    ∃ v' w', (Builtin.append_ #[56, 56] ty #[v, .slice (some a) m c]).run Tryz.prog w = .ok v' w' ∧ w'.ownsRow base 30 1 v' (n + m) (xs ++ wordVals ys) ∧ w.grownBy w' v.ownBlock ∧ Kp w w' := by
  obtain ⟨v', w', hr, h2, h3, -⟩ := run_append_own (P := Tryz.prog) w base 56 ty 30 i (.int .u64 0) 1 8 Tryz.underlying56 hi hz hsize hby rfl (by omega) v n xs hown a m c (wordVals ys) (by rw [wordVals_length]; omega) hnews (ones_words ys) (by unfold maxLen; omega) (by omega) hbase
  refine ⟨v', w', hr, h2, h3, ?_⟩
  intro b c' T hb
  have hbl := (Array.getElem?_eq_some_iff.1 hb).1
  by_cases hbo : some b = v.ownBlock
  · obtain ⟨hx1, ⟨rfl, -⟩ | ⟨g, cap, cur, rfl, hbg, hg, hnc, hcm, hcs, htake⟩⟩ := id hown
    · simp [Value.ownBlock] at hbo
    · simp [Value.ownBlock] at hbo
      subst hbo
      rw [hg] at hb
      simp only [Option.some.injEq, Obj.cells.injEq] at hb
      obtain ⟨rfl, rfl, -⟩ := hb
      refine ⟨fun e => absurd e (by decide), fun _ => ?_, fun e => absurd e (by decide)⟩
      by_cases hroom : n + m ≤ cap
      · have hr2 := run_append_room (P := Tryz.prog) w 56 ty 30 i Tryz.underlying56 hi b n cap cur hg a m c (wordVals ys) (by rw [hsize, wordVals_length]; omega) hnews (ones_words ys) hroom (by rw [wordVals_length, hsize]; omega)
        rw [hr] at hr2
        injection hr2 with e1 e2
        subst e2
        refine ⟨_, setRow_heap w b cur _ _ _ hg, ?_⟩
        rintro j ⟨y, hy1, hy2⟩
        have hj := (Array.getElem?_eq_some_iff.1 hy2).1
        rw [hsize, Nat.mul_one, List.getElem?_toArray, List.append_assoc, List.getElem?_append]
        have htl : (cur.toList.take n).length = n := by rw [List.length_take, Array.length_toList]; omega
        rw [htl]
        split
        · rename_i h
          rw [List.getElem?_take, if_pos h, Array.getElem?_toList]
          exact ⟨y, hy1, hy2⟩
        · rename_i h
          rw [List.getElem?_append, wordVals_length]
          split
          · rename_i h4
            refine ⟨ys[j - n], hy _ (List.getElem_mem _), ?_⟩
            unfold wordVals
            rw [List.getElem?_map, List.getElem?_eq_getElem h4]
            rfl
          · rename_i h4
            rw [List.getElem?_drop, Array.getElem?_toList]
            rw [show n + ys.length + (j - n - ys.length) = j by omega]
            exact ⟨y, hy1, hy2⟩
      · have holds : ∀ j u, xs[j]? = some u → w.cell? ((⟨b, 0, none⟩ : Addr).add j) = some u := hown.cells (g := b) rfl
        have hr2 := run_append_grow (P := Tryz.prog) w 56 ty 30 i (.int .u64 0) Tryz.underlying56 hi hz ⟨b, 0, none⟩ n cap xs (by rw [hsize]; exact hown.1) holds a m c (wordVals ys) (by rw [hsize, wordVals_length]; omega) hnews (by omega) (by omega) (growslice_fits (by omega) (by rw [hby]; omega))
        rw [hr] at hr2
        injection hr2 with e1 e2
        subst e2
        exact ⟨cur, (Below.heap_alloc w.drew _ b hbl).trans hg, fun _ => id⟩
  · have hs := h3.block b hbl hbo
    exact ⟨fun _ => hs, fun e => ⟨c', hs.trans hb, fun _ => id⟩, fun e => ⟨c', hs.trans hb, fun _ => id⟩⟩
theorem wp_append_kp {o : Oper} {a : Act} {w : World} {K : Act → World → Prop} {Q : Exit → Act → World → Prop} (s x : Operand)
    (ho : o.op = .call { callee := .builtin .append, args := #[s, x], argTypes := #[56, 56] })
    (base : Nat) (i : TypeInfo) (hi : Tryz.prog.info? 30 = some i) (hz : i.zero = some (.int .u64 0)) (hsize : i.size = 1) (hby : i.bytes = 8)
    (v : Value) (n : Nat) (xs : List Value) (hs : a.eval s = v) (hown : w.ownsRow base 30 1 v n xs)
    (ad : Addr) (m c : Nat) (ys : List Nat) (hx : a.eval x = .slice (some ad) m c) (hl : ys.length = m) (hy : SmallW ys) (hnews : ∀ j u, (wordVals ys)[j]? = some u → w.cell? (ad.add j) = some u) (h63 : n + m ≤ 10000) (hbase : base ≤ w.heap.size)
    (h : ∀ v' w', w'.ownsRow base 30 1 v' (n + m) (xs ++ wordVals ys) → w.grownBy w' v.ownBlock → Kp w w' → K (a.put o.dst v') w') : o.wp Tryz.prog a w K Q := by
  obtain ⟨v', w', hr, h2, h3, h4⟩ := run_append_kp base o.type i hi hz hsize hby v n xs hown ad m c ys hl hy hnews h63 hbase
  unfold Oper.wp execOp
  simp only [ho, resolve, invoke, builtin, Sem.run_bind, Sem.run_pure, Result.andThen_ok, List.map_toArray, List.map_cons, List.map_nil, hs, hx, hr]
  exact h v' w' h2 h3 h4
theorem wpList_append_kp {ops : Array Oper} {rest : List Oper} {o : Oper} {a : Act} {w : World} {Q : Exit → Act → World → Prop} (hgd : o.guard = none) (s x : Operand)
    (ho : o.op = .call { callee := .builtin .append, args := #[s, x], argTypes := #[56, 56] })
    (base : Nat) (i : TypeInfo) (hi : Tryz.prog.info? 30 = some i) (hz : i.zero = some (.int .u64 0)) (hsize : i.size = 1) (hby : i.bytes = 8)
    (v : Value) (n : Nat) (xs : List Value) (hs : a.eval s = v) (hown : w.ownsRow base 30 1 v n xs)
    (ad : Addr) (m c : Nat) (ys : List Nat) (hx : a.eval x = .slice (some ad) m c) (hl : ys.length = m) (hy : SmallW ys) (hnews : ∀ j u, (wordVals ys)[j]? = some u → w.cell? (ad.add j) = some u) (h63 : n + m ≤ 10000) (hbase : base ≤ w.heap.size)
    (h : ∀ v' w', w'.ownsRow base 30 1 v' (n + m) (xs ++ wordVals ys) → w.grownBy w' v.ownBlock → Kp w w' → wpList Tryz.prog ops Q rest (a.put o.dst v') w') : wpList Tryz.prog ops Q (o :: rest) a w :=
  wpList_plain hgd fun _ hK => wp_append_kp s x ho base i hi hz hsize hby v n xs hs hown ad m c ys hx hl hy hnews h63 hbase fun v' w' h2 h3 h4 => hK _ _ (h v' w' h2 h3 h4)
theorem step_append_kp {ops : Array Oper} {o : Oper} {a : Act} {w : World} {K : Act → World → Prop} {Q : Exit → Act → World → Prop} {E : Prop} (hgd : o.guard = none) (s x : Operand)
    (ho : o.op = .call { callee := .builtin .append, args := #[s, x], argTypes := #[56, 56] })
    (base : Nat) (i : TypeInfo) (hi : Tryz.prog.info? 30 = some i) (hz : i.zero = some (.int .u64 0)) (hsize : i.size = 1) (hby : i.bytes = 8)
    (v : Value) (n : Nat) (xs : List Value) (hs : a.eval s = v) (hown : w.ownsRow base 30 1 v n xs)
    (ad : Addr) (m c : Nat) (ys : List Nat) (hx : a.eval x = .slice (some ad) m c) (hl : ys.length = m) (hy : SmallW ys) (hnews : ∀ j u, (wordVals ys)[j]? = some u → w.cell? (ad.add j) = some u) (h63 : n + m ≤ 10000) (hbase : base ≤ w.heap.size)
    (h : ∀ v' w', w'.ownsRow base 30 1 v' (n + m) (xs ++ wordVals ys) → w.grownBy w' v.ownBlock → Kp w w' → K (a.put o.dst v') w') :
    if Region.wanted o (yielded ops a.tmps) = true then Oper.wp Tryz.prog o a w K Q else E := by
  have hw : Region.wanted o (yielded ops a.tmps) = true := by simp [Region.wanted, hgd]
  rw [if_pos hw]
  exact wp_append_kp s x ho base i hi hz hsize hby v n xs hs hown ad m c ys hx hl hy hnews h63 hbase h
theorem Fr.kpn {X : Nat → Prop} {w w' : World} (h : Fr X w w') (hx : ∀ q c T, X q → w.heap[q]? = some (Obj.cells c T (0, 0)) → T ≠ 30 ∧ T ≠ 5) : KpN w w' :=
  KpN.of_same fun b c T hb hT => (h b _ hb (fun hX => by
    obtain ⟨h1, h2⟩ := hx b c T hX hb
    exact hT.elim h1 h2) (fun c' e => by
    simp only [Obj.cells.injEq] at e
    obtain ⟨-, rfl, -⟩ := e
    rcases hT with h | h <;> exact absurd h (by decide))).trans hb.symm
theorem Twn.kpn {C P sb ln lc root : Nat} {la : Option Addr} {L : List Sg} {w w' : World} (h : Twn C P sb w la ln lc root L) (hf : Fr (fun q => q = P) w w') : KpN w w' :=
  hf.kpn fun q c T hq hc => by
    have hq : q = P := hq
    subst hq
    have := h.blk
    rw [hc] at this
    simp only [Option.some.injEq, Obj.cells.injEq] at this
    obtain ⟨-, rfl, -⟩ := this
    exact ⟨by decide, by decide⟩
set_option maxRecDepth 100000 in
set_option maxHeartbeats 1600000 in
/-- one more list -/
theorem tlist_any (C P sb T4 T15 E : Nat) (la : Option Addr) (ln lc root m : Nat) (L : List Sg) (lv : Value) (ls : List Nat) (w : World) (h : Twn C P sb w la ln lc root L)
    (h4 : w.heap[T4]? = some (.cells #[.pointer (some ⟨P, 0, none⟩)] 49 (0, 0))) (h15 : w.heap[T15]? = some (.cells #[lv] 56 (0, 0))) (hC15 : C ≤ T15) (hTE : T15 < E) (hPE : P < E) (h4E : T4 < E) (hEw : E ≤ w.heap.size)
    (ho : w.ownsRow E 30 1 lv m (wordVals ls)) (hls : SmallW ls) (hm : m ≤ 1000) (hu : usedS L + 2 ≤ 3000) (hn4 : T4 ≠ T15) :
    Calls Tryz.prog 14 #[.pointer (some ⟨T4, 0, none⟩), .pointer (some ⟨T15, 0, none⟩)] w fun e w' => ∃ (x : Nat) (la' : Option Addr) (lc' : Nat) (lv' : Value), e = .returned (.int .u64 (x : Int)) ∧ x = 2 * usedS L ∧ Twn C P sb w' la' (ln + 1) lc' root (L ++ [(usedS L, 1, 0)]) ∧
      w'.heap[T15]? = some (.cells #[lv'] 56 (0, 0)) ∧ w'.ownsRow E 30 1 lv' (m + 1) (wordVals (ls ++ [x])) ∧ Fr (fun q => q = P ∨ q = T15 ∨ E ≤ q) w w' ∧ KpN w w' ∧ Below C w w' := by
  obtain ⟨i2, hi2, hc0, hc1, hc2⟩ := info_parts u64Info
  have HT := Lib.hid h
  have ADD := Lib.hid (tadd_any C P sb la ln lc root L w h 1 0 (.slice none 0 0) (.slice none 0 0) [] (by omega) (numSl_none _ _ _ _ _) (bytes_none _) rfl (by omega) (by unfold cellsS; simp; omega))
  have H4 := Lib.hid h4; have H15 := Lib.hid h15; have HO := Lib.hid ho; have HU := Lib.hid hu; have HLS := Lib.hid hls
  have y0 := cellO h4 0
  simp at y0
  have hl15 := (Array.getElem?_eq_some_iff.1 h15).1
  have hCE : C ≤ E := by omega
  have hfit := h.fit
  obtain ⟨lva, lvn, lvc, rfl⟩ := owns_slice ho
  clear h h4 h15 ho hu hls
  go_enter Tryz.func14, Tryz.ntmps14
  go_wp2_with fail
  refine ADD.out.mono ?_
  rintro e w2 ⟨x, la2, lc2, rfl, hx, ht2, hf2, hb2⟩
  have HX := Lib.hid hx
  have hx64 : x < 18446744073709551616 := by omega
  have hs2 := hb2.size
  have h15' := hf2.cell H15.out (by show ¬ T15 = P; intro e; have h1 := H15.out; rw [e, HT.out.blk] at h1; simp at h1) (by decide)
  have y1 := cellO h15' 0
  have f1 : w2.frozen? ⟨T15, 0, none⟩ = false := by unfold World.frozen?; rw [h15']; rfl
  simp at y1
  have HOW : w2.ownsRow E 30 1 (.slice lva lvn lvc) m (wordVals ls) := by
    obtain ⟨o1, o2 | ⟨g, cap, cur, o2, o3, o4, o5⟩⟩ := HO.out
    · exact ⟨o1, .inl o2⟩
    · exact ⟨o1, .inr ⟨g, cap, cur, o2, o3, hf2.cell o4 (by show ¬ g = P; omega) (by decide), o5⟩⟩
  have HT2 := Lib.hid ht2; have HF2 := Lib.hid hf2; have HB2 := Lib.hid hb2; have H152 := Lib.hid h15'; have HO2 := Lib.hid HOW
  have HK2 := Lib.hid (HT.out.kpn hf2)
  clear ht2 hf2 hb2 h15' HOW ADD y0 hx
  go_wp2_with (at_builtin; refine wpList_append_kp rfl _ _ rfl E i2 hi2 hc0 hc1 hc2 _ m _ rfl (HO2.out.alloc _) ⟨w2.heap.size, 0, none⟩ 1 1 [x] rfl rfl ?e1 ?e2 ?e3 ?e4 ?_)
  case e1 => intro y hy; rw [List.mem_singleton.1 hy]; exact hx64
  case e2 =>
    intro k u hk
    match k, hk with
    | 0, hk => simp [wordVals] at hk; subst hk; simp [Addr.add]
  case e3 => omega
  case e4 => simp; omega
  intro v7 w7 hown7 hgr7 hkp7
  obtain ⟨va7, vn7, vc7, rfl⟩ := owns_slice hown7
  have ga : Below w2.heap.size w2 (w2.alloc (.cells #[.int .u64 (x : Int)] 30)) := (Below.refl _ _).alloc (Nat.le_refl _) _
  have hl2 := (Array.getElem?_eq_some_iff.1 H152.out).1
  have hn15 : some T15 ≠ (Value.slice lva lvn lvc).ownBlock := fun e => by have := (HO2.out.lt T15 e.symm).1; omega
  have hn15' : some T15 ≠ (Value.slice va7 vn7 vc7).ownBlock := fun e => by have := (hown7.lt T15 e.symm).1; omega
  have h157 := (hgr7.block T15 (by simp; omega) hn15).trans ((ga.block T15 hl2).trans H152.out)
  have hP7 := (hgr7.block P (by have := HT2.out.lt; simp; omega) (fun e => by have := (HO2.out.lt P e.symm).1; omega)).trans (ga.block P HT2.out.lt)
  have y1' := cellO h157 0
  have f1' : w7.frozen? ⟨T15, 0, none⟩ = false := by unfold World.frozen?; rw [h157]; rfl
  simp at y1'
  have k8 : Kp w7 (w7.setCell ⟨T15, 0, none⟩ (.slice va7 vn7 vc7)) := SameT.kp fun b c T hb hT => Below.heap_setCell _ _ _ _ fun e => by
    have e : b = T15 := e
    subst e
    rw [h157] at hb
    simp only [Option.some.injEq, Obj.cells.injEq] at hb
    obtain ⟨-, rfl, -⟩ := hb
    rcases hT with h | h | h <;> exact absurd h (by decide)
  have hPT : P ≠ T15 := fun e => by have h1 := H152.out; rw [← e, HT2.out.blk] at h1; simp at h1
  have FT := Lib.hid (HT2.out.keep (((same_below ga).kp.trans hkp7).trans k8) ((Below.heap_setCell _ _ _ _ hPT).trans hP7))
  have F15 := Lib.hid (show (w7.setCell ⟨T15, 0, none⟩ (.slice va7 vn7 vc7)).heap[T15]? = some (.cells #[.slice va7 vn7 vc7] 56 (0, 0)) from heap_setCell_same _ _ 0 _ _ (.slice va7 vn7 vc7) h157)
  have FO := Lib.hid (show (w7.setCell ⟨T15, 0, none⟩ (.slice va7 vn7 vc7)).ownsRow E 30 1 (.slice va7 vn7 vc7) (m + 1) (wordVals (ls ++ [x])) from by
    rw [show wordVals (ls ++ [x]) = wordVals ls ++ wordVals [x] by simp [wordVals]]
    exact owns_setOther hown7 hn15')
  have FF := Lib.hid (show Fr (fun q => q = P ∨ q = T15 ∨ E ≤ q) w (w7.setCell ⟨T15, 0, none⟩ (.slice va7 vn7 vc7)) from (((HF2.out.mono fun q hq => Or.inl hq).trans (Fr.below ga)).trans (Fr.grown hgr7 fun q hq => Or.inr (Or.inr (HO2.out.lt q hq).1))).trans (Fr.set (Or.inr (Or.inl rfl))))
  have FK := Lib.hid (show KpN w (w7.setCell ⟨T15, 0, none⟩ (.slice va7 vn7 vc7)) from ((HK2.out.trans (KpN.below ga)).trans hkp7.num).trans k8.num)
  have FB := Lib.hid (show Below C w (w7.setCell ⟨T15, 0, none⟩ (.slice va7 vn7 vc7)) from (((HB2.out.alloc (by omega) _).grown hgr7 (by simp; omega) (fun q hq => by have := (HO2.out.lt q hq).1; omega)).setCell (p := ⟨T15, 0, none⟩) hC15 _))
  clear hown7 hgr7 hkp7 ga h157 hP7 k8 y1 f1
  go_wp2_with fail
  go_ret
  exact ⟨x, _, _, _, rfl, HX.out, FT.out, F15.out, FO.out, FF.out, FK.out, FB.out⟩
end Go.Proofs.YtibopjjicfiimaaGreatDoor
