/- A number's lowest bytes read back; the document's of both; a copy with tinted room behind it. -/
import Derived.Test.YtffmkmhnhecmnaaDoorPackOpen
import Derived.Test.YtffmkmhnhecmnaaDoorPackPut
import Derived.Test.YtffmkmhnhecmnaaDoorPackLaid
namespace Go.Proofs.YtffmkmhnhecmnaaDoor
open Go.RowKit
def leVal : List UInt8 → Nat
  | [] => 0
  | c :: l => c.toNat + 256 * leVal l
theorem leVal_lt (l : List UInt8) : leVal l < 2 ^ (8 * l.length) := by
  induction l with
  | nil => simp [leVal]
  | cons c l ih =>
    have := c.toNat_lt
    simp only [leVal, List.length_cons]
    rw [show 8 * (l.length + 1) = 8 * l.length + 8 by omega, Nat.pow_add]
    omega
theorem leVal_snoc (l : List UInt8) (c : UInt8) : leVal (l ++ [c]) = leVal l + c.toNat * 2 ^ (8 * l.length) := by
  induction l with
  | nil => simp [leVal]
  | cons d l ih =>
    simp only [List.cons_append, leVal, List.length_cons]
    rw [ih, show 8 * (l.length + 1) = 8 * l.length + 8 by omega, Nat.pow_add, Nat.mul_add, ← Nat.mul_assoc, Nat.add_assoc]
    congr 1; congr 1
    rw [show (2:Nat) ^ 8 = 256 from rfl]
    generalize 2 ^ (8 * l.length) = p
    rw [Nat.mul_comm p 256, ← Nat.mul_assoc, Nat.mul_comm 256]
theorem leVal_take (l : List UInt8) (k : Nat) (h : k < l.length) (h8 : k < 8) : leVal (l.take (k + 1)) = leVal (l.take k) ||| (l[k].toNat * 2 ^ (8 * k)) ∧ leVal (l.take k) < 18446744073709551616 ∧ l[k].toNat * 2 ^ (8 * k) < 18446744073709551616 := by
  have hc := l[k].toNat_lt
  have hlen : (l.take k).length = k := by rw [List.length_take]; omega
  have h1 := leVal_lt (l.take k)
  rw [hlen] at h1
  have h2 : 2 ^ (8 * k) ≤ 2 ^ 56 := Nat.pow_le_pow_right (by omega) (by omega)
  refine ⟨?_, by omega, ?_⟩
  · rw [List.take_succ_eq_append_getElem h, leVal_snoc, hlen, Nat.or_comm, nat_join (8 * k) _ _ (Nat.mul_mod_left _ _) h1]
    omega
  · calc l[k].toNat * 2 ^ (8 * k) ≤ 255 * 2 ^ 56 := Nat.mul_le_mul (by omega) h2
      _ < _ := by decide
/-- what is read of the first bytes -/
def getN (l : List UInt8) (n : Int) : Nat := if clip8 n ≤ l.length then leVal (l.take (clip8 n)) else 0
theorem clip_any (n : Int) (w : World) : Calls Tryd.prog 42 #[.int .i64 n] w fun e w' => e = .returned (.int .i64 (clip8 n : Int)) ∧ w' = w := by
  go_enter Tryd.func42, Tryd.ntmps42
  go_wp2_with fail
  all_goals go_ret
  all_goals refine ⟨ret_int ?_, rfl⟩
  all_goals (go_light; unfold clip8; omega)
set_option maxRecDepth 100000 in
theorem get_any (v : Value) (l : List UInt8) (n : Int) (w : World) (h : BytesAt w v l) :
    Calls Tryd.prog 17 #[v, .int .i64 n] w fun e w' => e = .returned (.tuple #[.int .u64 (getN l n : Int), .int .i64 (if clip8 n ≤ l.length then 0 else 4)]) ∧ w' = w := by
  obtain ⟨a, cap, rfl, h1, h2, h3⟩ := h.get
  have H3 := Lib.hid h3; clear h3 h
  unfold maxLen at h2
  have hm : max 0 (min n 8) = ((clip8 n : Nat) : Int) := by unfold clip8; omega
  have hc8 : clip8 n ≤ 8 := by unfold clip8; omega
  unfold getN
  generalize clip8 n = c at *
  by_cases hcl : c ≤ l.length
  · rw [if_pos hcl, if_pos hcl]
    go_enter Tryd.func17, Tryd.ntmps17
    go_wp2_with fail
    go_loopg [6, 20] c (fun g x i wr => ∃ k : Nat, g = c - k ∧ k ≤ c ∧ i = .int .i64 k ∧ x = .int .u64 ((leVal (l.take k) : Nat) : Int) ∧ wr = w)
    case atStart => exact ⟨0, rfl, by omega, rfl, by simp [leVal], rfl⟩
    case round =>
      obtain ⟨k, hgk, hk, rfl, rfl, rfl⟩ := hrel
      have HK := Lib.hid hgk; clear hgk
      by_cases hlt : k < c
      · obtain ⟨hs, hx1, hx2⟩ := leVal_take l k (by omega) (by omega)
        obtain ⟨b, o, hab, hbl, hcell⟩ := H3.out k (by omega)
        subst hab
        have HS := Lib.hid hs; clear hs
        have hcb := l[k].toNat_lt
        have a1 := u64_or_nat (leVal (l.take k)) (l[k].toNat * 2 ^ (8 * k)) hx1 hx2
        generalize leVal (l.take k) = x at *
        generalize l[k].toNat = c8 at *
        have a2 : IntKind.u64.wrap ((c8 : Int) * 2 ^ (8 * k)) = ((c8 * 2 ^ (8 * k) : Nat) : Int) := by
          rw [show ((c8 : Int) * 2 ^ (8 * k)) = ((c8 * 2 ^ (8 * k) : Nat) : Int) by simp]
          generalize c8 * 2 ^ (8 * k) = z at hx2 ⊢
          rw [IntKind.wrap_u64]; omega
        go_wp2_with fail
        go_roundg (c - (k + 1))
        case measure => rw [HK.out]; omega
        case rel => exact ⟨k + 1, rfl, by omega, by go_num, by rw [HS.out, ← a1]; simp, rfl⟩
      · obtain rfl : k = c := by omega
        go_wp2_with fail
        exact bodyPost_ret (v := .tuple #[.int .u64 _, .int .i64 0]) (by simp [results, Tryd.results17, go_sem]) rfl ⟨rfl, rfl⟩
  · rw [if_neg hcl, if_neg hcl]
    go_enter Tryd.func17, Tryd.ntmps17
    go_wp2_with fail
    exact bodyPost_ret (v := .tuple #[.int .u64 0, .int .i64 4]) (by simp [results, Tryd.results17, go_sem]) rfl ⟨rfl, rfl⟩
theorem leVal_drop (l : List UInt8) (k : Nat) (h : k < l.length) : leVal (l.drop k) = l[k].toNat + 256 * leVal (l.drop (k + 1)) := by
  rw [List.drop_eq_getElem_cons h]; rfl
set_option maxRecDepth 100000 in
theorem rget_any (v : Value) (l : List UInt8) (n : Int) (w : World) (h : BytesAt w v l) :
    Calls Tryd.prog 18 #[v, .int .i64 n] w fun e w' => e = .returned (.tuple #[.int .u64 (getN l n : Int), .bool (decide (clip8 n ≤ l.length))]) ∧ w' = w := by
  obtain ⟨a, cap, rfl, h1, h2, h3⟩ := h.get
  have H3 := Lib.hid h3; clear h3 h
  unfold maxLen at h2
  have C := Lib.hid (clip_any n w)
  have hc8 : clip8 n ≤ 8 := by unfold clip8; omega
  unfold getN
  generalize clip8 n = c at *
  by_cases hcl : c ≤ l.length
  · rw [if_pos hcl, decide_eq_true hcl]
    have hlen : (l.take c).length = c := by rw [List.length_take]; omega
    go_enter Tryd.func18, Tryd.ntmps18
    go_wp2_with fail
    refine C.out.mono ?_
    rintro e w1 ⟨rfl, rfl⟩
    go_wp2_with fail
    go_loopg [6, 7] c (fun g x i wr => ∃ k : Nat, g = k ∧ k ≤ c ∧ i = .int .i64 ((k : Int) - 1) ∧ x = .int .u64 ((leVal ((l.take c).drop k) : Nat) : Int) ∧ wr = w1)
    case atStart => exact ⟨c, rfl, by omega, rfl, by rw [List.drop_of_length_le (by omega)]; rfl, rfl⟩
    case round =>
      obtain ⟨k, hgk, hk, rfl, rfl, rfl⟩ := hrel
      have HK := Lib.hid hgk; clear hgk
      rcases Nat.eq_zero_or_pos k with h0 | h0
      · subst h0
        have q1 : (-1 : Int) < 0 := by omega
        go_wp2_with fail
        exact bodyPost_ret (v := .tuple #[.int .u64 _, .bool true]) (by simp [results, Tryd.results18, go_sem]) rfl ⟨rfl, rfl⟩
      · obtain ⟨j, rfl⟩ : ∃ j, k = j + 1 := ⟨k - 1, by omega⟩
        have hj : ((j + 1 : Nat) : Int) - 1 = (j : Int) := by omega
        have hs := leVal_drop (l.take c) j (by omega)
        have hlt := leVal_lt ((l.take c).drop (j + 1))
        have hp : 2 ^ (8 * ((l.take c).drop (j + 1)).length) ≤ 2 ^ 56 := Nat.pow_le_pow_right (by omega) (by rw [List.length_drop, hlen]; omega)
        rw [List.getElem_take] at hs
        obtain ⟨b, o, hab, hbl, hcell⟩ := H3.out j (by omega)
        subst hab
        have HS := Lib.hid hs; clear hs
        have hcb := l[j].toNat_lt
        generalize l[j].toNat = c8 at *
        have hx : leVal ((l.take c).drop (j + 1)) < 72057594037927936 := by omega
        clear hlt hp
        generalize leVal ((l.take c).drop (j + 1)) = x at *
        go_wp2_with fail
        go_roundg j
        case measure => rw [HK.out]; omega
        case rel => exact ⟨j, rfl, by omega, by go_num, by rw [HS.out]; congr 1; omega, rfl⟩
  · rw [if_neg hcl, decide_eq_false hcl]
    go_enter Tryd.func18, Tryd.ntmps18
    go_wp2_with fail
    refine C.out.mono ?_
    rintro e w1 ⟨rfl, rfl⟩
    go_wp2_with fail
    exact bodyPost_ret (v := .tuple #[.int .u64 0, .bool false]) (by simp [results, Tryd.results18, go_sem]) rfl ⟨rfl, rfl⟩
set_option maxRecDepth 100000 in
theorem rput_any (v : Value) (l : List UInt8) (x : Nat) (hx : x < 18446744073709551616) (n : Int) (w : World) (h : BytesAt w v l) (hl : l.length ≤ 100000) :
    Calls Tryd.prog 20 #[v, .int .u64 (x : Int), .int .i64 n] w fun e w' => ∃ v', e = .returned v' ∧ OwnsB w' w.heap.size v' (l ++ leBytes x (clip8 n)) ∧ Below w.heap.size w w' := by
  obtain ⟨i0, hi, hz0, hz1, hz2⟩ := info_parts byteInfo
  have H := Lib.hid h
  obtain ⟨a, cap, rfl, h1, h2, -, -⟩ := h
  have C := Lib.hid (fun w => clip_any n w)
  have hc8 : clip8 n ≤ 8 := by unfold clip8; omega
  generalize clip8 n = c at *
  go_enter Tryd.func20, Tryd.ntmps20
  go_wp2_with fail
  refine (copy_any _ l _ H.out (by omega)).mono ?_
  rintro e w1 ⟨v1, rfl, ho, hg⟩
  have HO := Lib.hid ho; have HG := Lib.hid hg; clear ho hg
  go_wp2_with fail
  go_loopg [1, 7, 8] c (fun g y o i wr => ∃ k : Nat, g = c - k ∧ k ≤ c ∧ i = .int .i64 k ∧ y = .int .u64 ((x / 256 ^ k : Nat) : Int) ∧ OwnsB wr w.heap.size o (l ++ leBytes x k) ∧ Below w.heap.size w wr)
  case atStart => exact ⟨0, rfl, by omega, rfl, by simp, by simpa [leBytes] using HO.out, HG.out⟩
  case round =>
    obtain ⟨k, hgk, hk, rfl, rfl, hb, hg⟩ := hrel
    have HBk := Lib.hid hb; have HGk := Lib.hid hg; have HK := Lib.hid hgk; clear hb hg hgk
    by_cases hlt : k < c
    · have hll : (l ++ leBytes x k).length = l.length + k := by rw [List.length_append, leBytes_len]
      have hd : x / 256 ^ (k + 1) = x / 256 ^ k / 256 := by rw [Nat.pow_succ, Nat.div_div_eq_div_mul]
      have hyx : x / 256 ^ k ≤ x := Nat.div_le_self _ _
      have HD := Lib.hid hd
      have HS := Lib.hid (show leBytes x (k + 1) = leBytes x k ++ [UInt8.ofNat (x / 256 ^ k % 256)] from rfl)
      clear hd
      generalize x / 256 ^ k = y at *
      have hwl := HGk.out.size
      go_wp2_with fail
      refine (C.out wr).mono ?_
      rintro e w3 ⟨rfl, rfl⟩
      go_wp2_with (at_builtin; refine wpList_append_own _ rfl _ _ 22 rfl w.heap.size 5 i0 (.int .u8 0) 1 1 Tryd.underlying22 hi hz0 hz1 hz2 rfl (by decide) _ _ _ rfl (HBk.out.alloc _) ⟨w3.heap.size, 0, none⟩ 1 1 [.int .u8 ((y : Int) % 256)] rfl rfl ?c1 ?c2 ?c3 ?c4 ?c5 ?_)
      case c1 =>
        intro j u hj
        match j, hj with
        | 0, hj => simp at hj; subst hj; simp [Addr.add]
      case c2 => intro u hu; simp at hu; subst hu; rfl
      case c3 => rw [hll]; unfold maxLen; omega
      case c4 => rw [hll]; omega
      case c5 => simp; omega
      intro v' w2 hown' hgrow _
      have ho1 : OwnsB w2 w.heap.size v' (l ++ leBytes x (k + 1)) := ownsB_of hown' (by
        rw [HS.out, ← List.append_assoc, Lib.byteCells_append]
        congr 1
        simp [Lib.byteCells])
      have hb1 : Below w.heap.size w w2 := by
        refine Below.grown ?_ hgrow ?_ (fun q hq => (HBk.out.lt q hq).1)
        · repeat (first | with_reducible exact Below.refl _ _ | ((with_reducible refine Below.setCell ?_ ?_ _); rotate_left; focus (first | (simp; done) | (simp; omega) | omega)) | ((with_reducible refine Below.alloc ?_ ?_ _); rotate_left; focus (first | (simp; done) | (simp; omega) | omega)) | (with_reducible refine Below.drew ?_) | ((with_reducible refine Below.trans ?_ (Below.mono HGk.out ?_)); rotate_left; focus (first | (simp; done) | (simp; omega) | omega)))
        · simp; omega
      have HO2 := Lib.hid ho1; have HB2 := Lib.hid hb1; clear hown' hgrow ho1 hb1
      go_wp2_with fail
      go_roundg (c - (k + 1))
      case measure => rw [HK.out]; omega
      case rel => exact ⟨k + 1, rfl, by omega, by go_num, by rw [HD.out]; congr 1, HO2.out, HB2.out⟩
    · obtain rfl : k = c := by omega
      go_wp2_with fail
      refine (C.out wr).mono ?_
      rintro e w3 ⟨rfl, rfl⟩
      go_wp2_with fail
      go_ret
      exact ⟨_, rfl, HBk.out, HGk.out⟩
/-- a copy with tinted room behind it, whole -/
def spareL (l : List UInt8) : List UInt8 := l ++ (List.range 7).map fun i => UInt8.ofNat (190 + l.length + i)
theorem spareL_len (l : List UInt8) : (spareL l).length = l.length + 7 := by simp [spareL]
theorem spareL_in (l : List UInt8) (i : Nat) (h : i < l.length) : (spareL l)[i]? = some l[i] := by
  unfold spareL
  rw [List.getElem?_append_left h, List.getElem?_eq_getElem h]
theorem spareL_out (l : List UInt8) (i : Nat) (h : l.length ≤ i) (h7 : i < l.length + 7) : (spareL l)[i]? = some (UInt8.ofNat (190 + i)) := by
  unfold spareL
  rw [List.getElem?_append_right h, List.getElem?_map, List.getElem?_range (by omega)]
  show some (UInt8.ofNat (190 + l.length + (i - l.length))) = _
  rw [show 190 + l.length + (i - l.length) = 190 + i by omega]
theorem spareL_take (l : List UInt8) : (spareL l).take l.length = l := by simp [spareL]
theorem bytes_of_row {w : World} {g m cap : Nat} {f : Nat → Value} {L : List UInt8} (h : w.rowIs g 5 m f) (hm : L.length ≤ m) (hf : ∀ i (hi : i < L.length), f i = .int .u8 (L[i].toNat : Int)) (hc : L.length ≤ cap) (hcm : cap ≤ maxLen) : BytesAt w (.slice (some ⟨g, 0, none⟩) L.length cap) L := by
  refine ⟨_, cap, rfl, hc, hcm, Or.inr ⟨g, 0, rfl, fun j hj => ?_⟩, fun h => by cases h⟩
  rw [Lib.byteCells_length] at hj
  rw [Nat.zero_add, h.cell (by omega), hf j hj]
  simp [Lib.byteCells, hj]
set_option maxRecDepth 100000 in
theorem spare_any (v : Value) (l : List UInt8) (w : World) (h : BytesAt w v l) (hl : l.length ≤ 100000) :
    Calls Tryd.prog 15 #[v] w fun e w' => ∃ g c, e = .returned (.tuple #[.slice (some ⟨g, 0, none⟩) l.length c, .slice (some ⟨g, 0, none⟩) (l.length + 7) c]) ∧ BytesAt w' (.slice (some ⟨g, 0, none⟩) l.length c) l ∧ BytesAt w' (.slice (some ⟨g, 0, none⟩) (l.length + 7) c) (spareL l) ∧ Below w.heap.size w w' := by
  have H := Lib.hid h
  obtain ⟨a, cap, rfl, h1, h2, h3⟩ := h.get
  have H3 := Lib.hid h3; clear h3 h
  unfold maxLen at h2
  have hmk : ∀ W, (Instr.makeSlice 22 (.int .i64 ((l.length : Int) + 7)) (.int .i64 ((l.length : Int) + 7))).run Tryd.prog W = .ok (.slice (some ⟨W.heap.size, 0, none⟩) (l.length + 7) (l.length + 7)) (W.alloc (.cells (madeCells #[.int .u8 0] (l.length + 7)) 5)) :=
    fun W => by
      have := run_make_row' (P := Tryd.prog) 22 5 (.int .u8 0) 1 Tryd.underlying22 byteInfo rfl .i64 .i64 (l.length + 7) (by omega) (by omega) W
      simpa using this
  go_enter Tryd.func15, Tryd.ntmps15
  go_wp2_with fail
  go_loopg [5] (l.length + 7) (fun g i wr => ∃ k : Nat, g = l.length + 7 - k ∧ k ≤ l.length + 7 ∧ i = .int .i64 k ∧ wr.rowIs w.heap.size 5 (l.length + 7) (fun j => if j < k then .int .u8 (((spareL l).getD j 0).toNat : Int) else .int .u8 0) ∧ Below w.heap.size w wr)
  case atStart => exact ⟨0, rfl, by omega, rfl, (World.rowIs_made w _ _ _).congr (fun i _ => by rw [if_neg (by omega)]), (Below.refl _ w).alloc (Nat.le_refl _) _⟩
  case round =>
    obtain ⟨k, hgk, hk, rfl, hr, hb⟩ := hrel
    have HK := Lib.hid hgk; have HR := Lib.hid hr; have HB := Lib.hid hb; clear hgk
    by_cases hlt : k < l.length + 7
    · have hcell := hr.cell hlt
      have hfz := hr.frozen k
      have hlw := hr.lt
      rw [if_neg (by omega)] at hcell
      by_cases hin : k < l.length
      · obtain ⟨b, o, hab, hbl, hcb⟩ := H3.out k hin
        have hcb' : wr.cell? ⟨b, o + k, none⟩ = _ := (hb.cell (p := ⟨b, o + k, none⟩) hbl).trans hcb
        have hne : b ≠ w.heap.size := by omega
        subst hab
        have HN := Lib.hid (fun (u v : Value) (hv : v = .int .u8 (l[k].toNat : Int)) => show ((wr.setCell ⟨w.heap.size, k, none⟩ u).setCell ⟨w.heap.size, k, none⟩ v).rowIs w.heap.size 5 (l.length + 7) (fun j => if j < k + 1 then .int .u8 (((spareL l).getD j 0).toNat : Int) else .int .u8 0) from
          ((hr.set k u).set k v).congr (fun i hi => by
            by_cases hik : i = k
            · subst hik
              rw [if_pos rfl, if_pos (by omega), hv, List.getD_eq_getElem?_getD, spareL_in l i hin]; rfl
            · by_cases hlk : i < k
              · simp only [if_neg hik, if_pos hlk]; rw [if_pos (by omega)]
              · simp only [if_neg hik, if_neg hlk]; rw [if_neg (by omega)]))
        have HB' := Lib.hid (fun (u v : Value) => (hb.setCell (p := ⟨w.heap.size, k, none⟩) (Nat.le_refl _) u).setCell (p := ⟨w.heap.size, k, none⟩) (Nat.le_refl _) v)
        generalize l[k].toNat = c8 at *
        clear hr hb hcb
        go_wp2_with fail
        go_roundg (l.length + 7 - (k + 1))
        case measure => rw [HK.out]; omega
        case rel => exact ⟨k + 1, rfl, by omega, by go_num, HN.out _ _ rfl, HB'.out _ _⟩
      · have HN := Lib.hid (fun (u : Value) (hv : u = .int .u8 ((190 + (k : Int)) % 256)) => show (wr.setCell ⟨w.heap.size, k, none⟩ u).rowIs w.heap.size 5 (l.length + 7) (fun j => if j < k + 1 then .int .u8 (((spareL l).getD j 0).toNat : Int) else .int .u8 0) from
          (hr.set k u).congr (fun i hi => by
            by_cases hik : i = k
            · subst hik
              rw [if_pos rfl, if_pos (by omega), hv, List.getD_eq_getElem?_getD, spareL_out l i (by omega) (by omega)]
              congr 1
            · by_cases hlk : i < k
              · simp only [if_neg hik, if_pos hlk]; rw [if_pos (by omega)]
              · simp only [if_neg hik, if_neg hlk]; rw [if_neg (by omega)]))
        have HB' := Lib.hid (fun (u : Value) => hb.setCell (p := ⟨w.heap.size, k, none⟩) (Nat.le_refl _) u)
        clear hr hb
        go_wp2_with fail
        go_roundg (l.length + 7 - (k + 1))
        case measure => rw [HK.out]; omega
        case rel => exact ⟨k + 1, rfl, by omega, by go_num, HN.out _ rfl, HB'.out _⟩
    · obtain rfl : k = l.length + 7 := by omega
      have HP := Lib.hid (bytes_of_row (cap := l.length + 7) (L := spareL l) hr (by rw [spareL_len]; omega) (fun i hi => by rw [spareL_len] at hi; simp [hi, List.getD_eq_getElem?_getD, spareL_len]) (by rw [spareL_len]; omega) (by unfold maxLen; omega))
      clear hr hb
      go_wp2_with fail
      refine bodyPost_ret (v := .tuple #[.slice (some ⟨w.heap.size, 0, none⟩) l.length (l.length + 7), .slice (some ⟨w.heap.size, 0, none⟩) (l.length + 7) (l.length + 7)]) (by simp [results, Tryd.results15, go_sem]) rfl ⟨_, _, rfl, ?_, ?_, HB.out⟩
      · have := bytes_take (m := l.length) HP.out (by rw [spareL_len]; omega)
        rwa [spareL_take] at this
      · have := HP.out
        rwa [spareL_len] at this
set_option maxRecDepth 100000 in
theorem kept_yes (v u : Value) (l : List UInt8) (w : World) (hl : l.length ≤ 100000) (hv : BytesAt w v (spareL l)) (hu : BytesAt w u l) :
    Calls Tryd.prog 21 #[v, u] w fun e w' => e = .returned (.bool true) ∧ Below w.heap.size w w' := by
  have hL := spareL_len l
  have hin := fun i h => spareL_in l i h
  have hout := fun i h1 h2 => spareL_out l i h1 h2
  generalize spareL l = L at *
  obtain ⟨a, ca, rfl, v1, v2, v3⟩ := hv.get
  obtain ⟨b, cb, rfl, u1, u2, u3⟩ := hu.get
  have V := Lib.hid v3; have U := Lib.hid u3; have HI := Lib.hid hin; have HO := Lib.hid hout; clear v3 u3 hv hu hin hout
  unfold maxLen at v2 u2
  go_enter Tryd.func21, Tryd.ntmps21
  go_wp2_with fail
  go_loopg [5] (l.length + 7) (fun g i wr => ∃ k : Nat, g = l.length + 7 - k ∧ k ≤ l.length + 7 ∧ i = .int .i64 k ∧ Below w.heap.size w wr)
  case atStart => exact ⟨0, rfl, by omega, rfl, Below.refl _ _⟩
  case round =>
    obtain ⟨k, hgk, hk, rfl, hb⟩ := hrel
    have HK := Lib.hid hgk; have HB := Lib.hid hb; clear hgk
    by_cases hlt : k < l.length + 7
    · obtain ⟨vb, vo, hva, hvl, hvc⟩ := V.out k (by omega)
      have hvc' : wr.cell? ⟨vb, vo + k, none⟩ = _ := (hb.cell (p := ⟨vb, vo + k, none⟩) hvl).trans hvc
      have hwl := hb.size
      have hvl' : vb < wr.heap.size := by omega
      subst hva
      by_cases hin : k < l.length
      · obtain ⟨ub, uo, hua, hul, huc⟩ := U.out k hin
        have huc' : wr.cell? ⟨ub, uo + k, none⟩ = _ := (hb.cell (p := ⟨ub, uo + k, none⟩) hul).trans huc
        have hul' : ub < wr.heap.size := by omega
        subst hua
        have he : L[k] = l[k] := by have := HI.out k hin; rw [List.getElem?_eq_getElem (by omega)] at this; exact Option.some.inj this
        rw [he] at hvc'
        generalize l[k].toNat = c8 at *
        have q1 : decide ((k : Int) < (l.length : Int)) = true := by simp; omega
        have q2 : decide ((l.length : Int) ≤ (k : Int)) = false := by simp; omega
        have q3 : decide (k < l.length) = true := decide_eq_true hin
        have q4 : decide (l.length ≤ k) = false := decide_eq_false (by omega)
        have q5 : ((c8 : Int) != (c8 : Int)) = false := bne_self_eq_false _
        have q6 : ((c8 : Int) == (c8 : Int)) = true := beq_self_eq_true _
        clear hb hvc huc
        go_wp2_with fail
        (refine wp_region_later (by kernel_rfl) (by kernel_rfl) ?_; (repeat (go_big_quiet_step ((fail)))); refine wpQuiet_nil ?_; intro w4 hw4; have hg := later_elim hw4; clear hw4)
        have HB4 := Lib.hid (HB.out.trans (hg.mono hwl)); clear hg
        go_wp2_with fail
        go_roundg (l.length + 7 - (k + 1))
        case measure => rw [HK.out]; omega
        case rel => exact ⟨k + 1, rfl, by omega, by go_num, HB4.out⟩
      · have he : (L[k].toNat : Int) = (190 + (k : Int)) % 256 := by
          have := HO.out k (by omega) (by omega)
          rw [List.getElem?_eq_getElem (by omega)] at this
          rw [Option.some.inj this]
          have : (UInt8.ofNat (190 + k)).toNat = (190 + k) % 256 := by simp
          omega
        rw [he] at hvc'
        have q1 : decide ((k : Int) < (l.length : Int)) = false := by simp; omega
        have q2 : decide ((l.length : Int) ≤ (k : Int)) = true := by simp; omega
        have q3 : decide (k < l.length) = false := decide_eq_false hin
        have q4 : decide (l.length ≤ k) = true := decide_eq_true (by omega)
        have q5 : ((190 + (k : Int)) % 256 != (190 + (k : Int)) % 256) = false := bne_self_eq_false _
        have q6 : ((190 + (k : Int)) % 256 == (190 + (k : Int)) % 256) = true := beq_self_eq_true _
        clear hb hvc he
        go_wp2_with fail
        (refine wp_region_later (by kernel_rfl) (by kernel_rfl) ?_; (repeat (go_big_quiet_step ((fail)))); refine wpQuiet_nil ?_; intro w4 hw4; have hg := later_elim hw4; clear hw4)
        have HB4 := Lib.hid (HB.out.trans (hg.mono hwl)); clear hg
        go_wp2_with fail
        go_roundg (l.length + 7 - (k + 1))
        case measure => rw [HK.out]; omega
        case rel => exact ⟨k + 1, rfl, by omega, by go_num, HB4.out⟩
    · obtain rfl : k = l.length + 7 := by omega
      clear hb
      go_wp2_with fail
      go_ret
      exact ⟨rfl, HB.out⟩
/-- one byte of a row of the call's own is stored -/
theorem owns_turn {w : World} {B n c k : Nat} {a : Option Addr} {L : List UInt8} (h : OwnsB w B (.slice a n c) L) (hL : L.length = n) (hk : k < n) :
    ∃ g x, a = some ⟨g, 0, none⟩ ∧ B ≤ g ∧ g < w.heap.size ∧ w.cell? ⟨g, k, none⟩ = some (.int .u8 ((x : Nat) : Int)) ∧ x < 256 ∧ w.frozen? ⟨g, k, none⟩ = false ∧
      ∀ y, y < 256 → ∃ L' : List UInt8, L'.length = n ∧ OwnsB (w.setCell ⟨g, k, none⟩ (.int .u8 ((y : Nat) : Int))) B (.slice a n c) L' := by
  subst hL
  obtain ⟨g, c', hv, hB, hg, -, -⟩ := ownsB_form h (by omega)
  injection hv with ha _ hc
  subst ha hc
  refine ⟨g, L[k].toNat, rfl, hB, hg, ownsB_cell h k hk, L[k].toNat_lt, World.ownsRow.frozenAt h k, fun y hy => ⟨L.set k (UInt8.ofNat y), List.length_set, ?_⟩⟩
  have := ownsB_set h k (UInt8.ofNat y)
  have hd : (UInt8.ofNat y).toNat = y := by
    have : (UInt8.ofNat y).toNat = y % 256 := by simp
    omega
  rw [hd] at this
  exact this
end Go.Proofs.YtffmkmhnhecmnaaDoor
