/- Bytes compared, symbols that rise, a class's format. A class's format; the first two rules: all leads to objects, no word is nought, nothing is marked. The first rule: all leads to objects, no word is nought. -/
import Derived.Test.YtibopjjicfiimaaGreatDoorSoB
import Derived.Lib.BytesEntry
import Derived.Lib.Bytealg
import Derived.Test.YtibopjjicfiimaaGreatDoorLoadF
namespace Go.Proofs.YtibopjjicfiimaaGreatDoor
open Go.RowKit
set_option linter.unusedVariables false
theorem bytesOf_map (L : List UInt8) : Lib.bytesOf (L.map fun b => (b.toNat : Int)) = L := by
  unfold Lib.bytesOf
  rw [List.map_map]
  refine (List.map_congr_left fun b _ => ?_).trans (List.map_id L)
  simp
theorem run_bytesOf (v : Value) (L : List UInt8) (w : World) (hv : BytesAt w v L) : (Extern.Bytes.bytesOf v).run Tryz.prog w = .ok ⟨L.toArray⟩ w := by
  obtain ⟨a, cap, rfl, h1, h2, h3, h4⟩ := hv
  cases a with
  | none =>
    have hl : L = [] := by
      rcases h3 with h3 | ⟨b, o, h, -⟩
      · have := congrArg List.length h3
        rw [Lib.byteCells_length] at this
        exact List.eq_nil_of_length_eq_zero this
      · cases h
    subst hl
    rfl
  | some a =>
    have hc := RowAt.add h3
    have h := Lib.run_loadBytesX (P := Tryz.prog) w (L.map fun b => (b.toNat : Int)) a .empty (fun j x hj => by
      apply hc
      unfold Lib.byteCells
      rw [List.getElem?_map] at hj ⊢
      cases hL : L[j]? with
      | none => rw [hL] at hj; cases hj
      | some b => rw [hL] at hj; simp at hj ⊢; exact hj)
    rw [bytesOf_map, List.length_map] at h
    show (Extern.Bytes.loadBytes a L.length .empty).run Tryz.prog w = _
    rw [h]
    congr 1
    apply ByteArray.ext
    show (#[] : Array UInt8) ++ L.toArray = L.toArray
    simp
theorem run_compareSl (v u : Value) (L K : List UInt8) (w : World) (hv : BytesAt w v L) (hu : BytesAt w u K) : (Extern.BytealgCompare.compare #[v, u]).run Tryz.prog w = .ok (.int .i64 (Lib.compareBytes L K)) w := by
  change Sem.run Tryz.prog (do pure (goInt (Extern.BytealgCompare.cmp (← Extern.Bytes.bytesOf v) (← Extern.Bytes.bytesOf u)))) w = _
  simp only [Sem.run_bind, Sem.run_pure, Result.andThen, run_bytesOf v L w hv, run_bytesOf u K w hu]
  rw [Lib.cmp_eq]
  rfl
set_option maxRecDepth 100000 in
theorem compare_any (v u : Value) (L K : List UInt8) (w : World) (hv : BytesAt w v L) (hu : BytesAt w u K) :
    Calls Tryz.prog 94 #[v, u] w fun e w' => e = .returned (.int .i64 (Lib.compareBytes L K)) ∧ w' = w := by
  have h := run_compareSl v u L K w hv hu
  go_enter Tryz.func94, Tryz.ntmps94
  go_wp2
  rw [run_callFunc_extern Tryz.func104 (by kernel_rfl) (by kernel_rfl) (by kernel_rfl) (e := Extern.BytealgCompare.compare) (by kernel_rfl), h]
  simp only [Result.andThen]
  rw [Oper.upon_value]
  go_wp2
  go_ret
  exact ⟨rfl, rfl⟩
/-- each n-th of a list -/
def nthL (n : Nat) (l : List Nat) : List Nat := (List.range ((l.length + n - 1) / n)).map fun k => l.getD (k * n) 0
/-- the symbols rise -/
def risF (S : Nat → Bool) (M : Nat → Nat) (sp : Nat → Nat) : Option (List UInt8) → List Nat → Bool
  | _, [] => true
  | o, x :: l => txB S M sp x && (match o with | none => true | some b => decide (Lib.compareBytes b (bytX S M x) < 0)) && risF S M sp (some (bytX S M x)) l
theorem risF_cons (S : Nat → Bool) (M : Nat → Nat) (sp : Nat → Nat) (o : Option (List UInt8)) (x : Nat) (l : List Nat) : risF S M sp o (x :: l) = (txB S M sp x && (match o with | none => true | some b => decide (Lib.compareBytes b (bytX S M x) < 0)) && risF S M sp (some (bytX S M x)) l) := by cases o <;> rfl
theorem risF_nil (S : Nat → Bool) (M : Nat → Nat) (sp : Nat → Nat) (o : Option (List UInt8)) : risF S M sp o [] = true := by cases o <;> rfl
theorem nth_lt {n len k : Nat} (hn : 0 < n) : k < (len + n - 1) / n ↔ k * n < len := by
  rw [Nat.lt_iff_add_one_le, Nat.le_div_iff_mul_le hn, Nat.succ_mul]; omega
section
variable {w : World} {B h N free L root : Nat} {S : Nat → Bool} {M : Nat → Nat} {sp : Nat → Nat} {cv : Value}
set_option maxRecDepth 100000 in
set_option maxHeartbeats 1600000 in
theorem rising_any (v : Value) (l : List Nat) (n : Nat) (k : Lk w B h N free S M L root sp cv) (hv : WordsAt w v l) (hl : ∀ x, x ∈ l → x < 18446744073709551616) (hn : 0 < n) (hn2 : n ≤ 2) (hlb : l.length ≤ 100000) :
    Calls Tryz.prog 59 #[.pointer (some ⟨L, 0, none⟩), v, .int .i64 (n : Int)] w fun e w' => e = .returned (.bool (risF S M sp none (nthL n l))) ∧ Below w.heap.size w w' := by
  have K := Lib.hid k
  have HV := Lib.hid hv
  have HL := Lib.hid hl
  obtain ⟨va, vc, rfl, c1, c2, -⟩ := hv.get
  obtain ⟨len, hlen⟩ : ∃ len, l.length = len := ⟨_, rfl⟩
  have HLEN := Lib.hid hlen
  have hlm : len ≤ 100000 := by omega
  rw [hlen]
  have HQ := Lib.hid (fun k (hk : k < (len + n - 1) / n) => show (nthL n l).drop k = l.getD (k * n) 0 :: (nthL n l).drop (k + 1) from by
    have hlt : k < (nthL n l).length := by simp [nthL, hlen]; exact hk
    rw [List.drop_eq_getElem_cons hlt]
    congr 1
    simp [nthL])
  have HE := Lib.hid (show (nthL n l).drop ((len + n - 1) / n) = [] from List.drop_eq_nil_of_le (by simp [nthL, hlen]))
  have HX := Lib.hid (fun k => nth_lt (n := n) (len := len) (k := k) hn)
  obtain ⟨lx, hlx⟩ : ∃ lx, nthL n l = lx := ⟨_, rfl⟩
  rw [hlx] at HQ HE ⊢
  obtain ⟨kk, hkk⟩ : ∃ kk, (len + n - 1) / n = kk := ⟨_, rfl⟩
  rw [hkk] at HQ HE HX
  clear k hv hl hlen hlx c1 c2 hkk
  go_enter Tryz.func59, Tryz.ntmps59
  go_wp2_with fail
  go_loopg [7, 8] kk (fun gg s7 s8 wr => ∃ (k q : Nat) (o : Option (List UInt8)), gg = kk - k ∧ k ≤ kk ∧ q = k * n ∧ s8 = .int .i64 (q : Int) ∧ Below w.heap.size w wr ∧ risF S M sp none lx = risF S M sp o (lx.drop k) ∧ ((k = 0 ∧ o = none ∧ s7 = .slice none 0 0) ∨ ∃ b, 0 < k ∧ o = some b ∧ BytesAt wr s7 b))
  case atStart => exact ⟨0, 0, none, by omega, by omega, by omega, rfl, Below.refl _ _, rfl, Or.inl ⟨rfl, rfl, rfl⟩⟩
  case round =>
    obtain ⟨k, q, o, hgk, hk, hq, rfl, hb, hr, ho⟩ := hrel
    have HGK := Lib.hid hgk; have HB := Lib.hid hb; have HR := Lib.hid hr; have HO := Lib.hid ho; have HQQ := Lib.hid hq
    have hxk := HX.out k
    rw [← hq] at hxk
    clear hgk hr ho hq
    by_cases hlt : k < kk
    · have hql := hxk.1 hlt
      obtain ⟨va', vc', hue, -, -, hcu⟩ := (HV.out.later hb).get
      simp only [Value.slice.injEq] at hue
      obtain ⟨rfl, -, rfl⟩ := hue
      obtain ⟨xb, xo, rfl, hxl, hxc⟩ := hcu q (by rw [HLEN.out]; exact hql)
      have hql' : q < l.length := by rw [HLEN.out]; exact hql
      have hxs := HL.out _ (List.getElem_mem hql')
      have hd := HQ.out k hlt
      rw [← HQQ.out, List.getD_eq_getElem?_getD, List.getElem?_eq_getElem hql', Option.getD_some] at hd
      obtain ⟨x, hx⟩ : ∃ x, l[q]'hql' = x := ⟨_, rfl⟩
      rw [hx] at hxc hxs hd
      have TX := Lib.hid (text_any x (K.out.later hb) hxs)
      have HR2 := HR.out
      rw [hd, risF_cons] at HR2
      have HR3 := Lib.hid HR2
      clear hb hcu hx hxs hd HR2 HR hxk
      generalize hty : txB S M sp x = ty at *
      generalize hby : bytX S M x = by_ at *
      clear hty hby
      go_wp2_with fail
      refine TX.out.mono ?_
      rintro e w1 ⟨v1, rfl, hb1, hg1⟩
      have HB1 := Lib.hid hb1; have HG1 := Lib.hid (HB.out.trans (hg1.mono HB.out.size)); have HG1' := Lib.hid hg1
      clear hb1 hg1 hxc
      cases ty with
      | false =>
        go_wp2_with fail
        go_ret
        exact ⟨by rw [HR3.out]; rfl, HG1.out⟩
      | true =>
        rcases HO.out with ⟨rfl, rfl, rfl⟩ | ⟨b, hk0, rfl, hbl⟩
        · obtain rfl : q = 0 := by rw [HQQ.out]; omega
          go_wp2_with fail
          go_roundg (kk - (0 + 1))
          case measure => rw [HGK.out]; omega
          case rel => exact ⟨0 + 1, 0 + n, some by_, rfl, by omega, by omega, by go_num, HG1.out, by rw [HR3.out]; simp, Or.inr ⟨by_, by omega, rfl, HB1.out⟩⟩
        · have hq0 : 0 < q := by rw [HQQ.out]; exact Nat.mul_pos hk0 hn
          have CM := Lib.hid (compare_any _ _ _ _ w1 (hbl.later HG1'.out) HB1.out)
          clear hbl
          go_wp2_with fail
          refine CM.out.mono ?_
          rintro e w2 ⟨rfl, rfl⟩
          have hrc : risF S M sp none lx = (decide (Lib.compareBytes b by_ < 0) && risF S M sp (some by_) (lx.drop (k + 1))) := by rw [HR3.out]; simp
          have HRC := Lib.hid hrc
          clear hrc
          generalize Lib.compareBytes b by_ = cm at *
          have hcf : ¬ cm < 0 → (decide (cm < 0)) = false := fun h => by simpa using h
          have HCF := Lib.hid hcf
          clear hcf
          by_cases hcm : cm < 0
          · go_wp2_with fail
            go_roundg (kk - (k + 1))
            case measure => rw [HGK.out]; omega
            case rel => exact ⟨k + 1, q + n, some by_, rfl, by omega, by rw [HQQ.out, Nat.succ_mul], by go_num, HG1.out, by rw [HRC.out]; simp [hcm], Or.inr ⟨by_, by omega, rfl, HB1.out⟩⟩
          · go_wp2_with fail
            go_ret
            exact ⟨by rw [HRC.out, HCF.out (by omega)]; rfl, HG1.out⟩
    · obtain rfl : k = kk := by omega
      have hql := fun h => hlt (hxk.2 h)
      have hrr : risF S M sp none lx = true := by rw [HR.out, HE.out, risF_nil]
      have HRR := Lib.hid hrr
      clear hb hrr hxk
      go_wp2_with fail
      go_ret
      exact ⟨by rw [HRR.out]; rfl, HB.out⟩
end
end Go.Proofs.YtibopjjicfiimaaGreatDoor
namespace Go.Proofs.YtibopjjicfiimaaGreatDoor
open Go.RowKit
set_option linter.unusedVariables false
/-- a class's format: how many fields, and the kind -/
def fmtX (S : Nat → Bool) (M : Nat → Nat) (x : Nat) : Option (Int × Int) :=
  if getX S M x 2 % 2 = 1 ∧ 0 ≤ wrap64 (getX S M x 2 : Nat) / 2 ∧ wrap64 (getX S M x 2 : Nat) / 2 ≤ 4194304 then some (wrap64 (getX S M x 2 : Nat) / 2 / 4, wrap64 (getX S M x 2 : Nat) / 2 % 4) else none
theorem and3 (x : Int) (h0 : 0 ≤ x) (h1 : x ≤ 4194304) : bits BinOp.and IntKind.i64 x 3 = x % 4 := by
  have e63 : (2 : Int) ^ 63 = 9223372036854775808 := by decide
  have h := bits_mask .i64 63 (by decide) (fun n h0 h1 => by rw [e63] at h1; rw [IntKind.wrap_i64]; omega) 2 (by decide) x (by omega) (by rw [e63]; omega)
  have e : ((2 : Int) ^ 2 - 1) = 3 := by decide
  rw [e] at h
  rw [h]
  rfl
section
variable {w : World} {B h N free L root : Nat} {S : Nat → Bool} {M : Nat → Nat} {sp : Nat → Nat} {cv : Value}
set_option maxRecDepth 100000 in
theorem value2_any (x : Nat) (hx : x < 18446744073709551616) (w : World) :
    Calls Tryz.prog 95 #[.int .u64 (x : Int)] w fun e w' => e = .returned (.tuple #[.int .i64 (if x % 2 = 1 then wrap64 (x : Nat) / 2 else 0), .int .i64 (if x % 2 = 1 then 0 else 13)]) ∧ w' = w := by
  have IS := Lib.hid (is_any (x : Int) (by omega) (by omega) w)
  by_cases hc : x % 2 = 1
  · rw [decide_eq_true (by omega)] at IS
    rw [if_pos hc, if_pos hc]
    go_enter Tryz.func95, Tryz.ntmps95
    go_wp2_with fail
    refine IS.out.mono ?_
    rintro e w1 ⟨rfl, rfl⟩
    go_wp2_with fail
    exact bodyPost_ret (v := .tuple #[.int .i64 (wrap64 (x : Nat) / 2), .int .i64 0]) (by simp [results, Tryz.results95, go_sem]) rfl ⟨rfl, rfl⟩
  · rw [decide_eq_false (by omega)] at IS
    rw [if_neg hc, if_neg hc]
    go_enter Tryz.func95, Tryz.ntmps95
    go_wp2_with fail
    refine IS.out.mono ?_
    rintro e w1 ⟨rfl, rfl⟩
    go_wp2_with fail
    exact bodyPost_ret (v := .tuple #[.int .i64 0, .int .i64 13]) (by simp [results, Tryz.results95, go_sem]) rfl ⟨rfl, rfl⟩
set_option maxRecDepth 100000 in
theorem format_any (x : Nat) (k : Lk w B h N free S M L root sp cv) (hx : x < 18446744073709551616) :
    Calls Tryz.prog 65 #[.pointer (some ⟨L, 0, none⟩), .int .u64 (x : Int)] w fun e w' => e = .returned (match fmtX S M x with | some (a, b) => .tuple #[.int .i64 a, .int .i64 b, .bool true] | none => .tuple #[.int .i64 0, .int .i64 0, .bool false]) ∧ Below w.heap.size w w' := by
  have HP := Lib.hid (part_any x 2 k hx (by omega))
  have hy : getX S M x 2 < 18446744073709551616 := by
    unfold getX
    rw [List.getD_eq_getElem?_getD]
    cases hg : (wrdX S M x)[2]? with
    | none => show (0 : Nat) < _; omega
    | some y =>
      have := List.mem_of_getElem? hg
      unfold wrdX at this
      split at this
      · obtain ⟨i, -, rfl⟩ := List.mem_map.1 this
        exact k.c.small _
      · cases this
  unfold fmtX
  obtain ⟨y, hye⟩ : ∃ y, getX S M x 2 = y := ⟨_, rfl⟩
  rw [hye] at HP hy ⊢
  clear hye k
  have VA := Lib.hid (value2_any y hy)
  by_cases hc : y % 2 = 1
  · simp only [if_pos hc] at VA
    by_cases h0 : 0 ≤ wrap64 (y : Nat) / 2 ∧ wrap64 (y : Nat) / 2 ≤ 4194304
    · rw [if_pos ⟨hc, h0⟩]
      have A3 := Lib.hid (and3 _ h0.1 h0.2)
      generalize wrap64 (y : Nat) / 2 = z at *
      obtain ⟨h1, h2⟩ := h0
      go_enter Tryz.func65, Tryz.ntmps65
      go_wp2_with fail
      refine HP.out.mono ?_
      rintro e w1 ⟨rfl, hg⟩
      have HG := Lib.hid hg; clear hg
      go_wp2_with fail
      refine (VA.out w1).mono ?_
      rintro e w2 ⟨rfl, rfl⟩
      go_wp2_with fail
      exact bodyPost_ret (v := .tuple #[.int .i64 (z / 4), .int .i64 (bits BinOp.and IntKind.i64 z 3), .bool true]) (by simp [results, Tryz.results65, go_sem]) rfl ⟨by rw [A3.out], HG.out⟩
    · rw [if_neg (fun hh => h0 hh.2)]
      generalize wrap64 (y : Nat) / 2 = z at *
      go_enter Tryz.func65, Tryz.ntmps65
      go_wp2_with fail
      refine HP.out.mono ?_
      rintro e w1 ⟨rfl, hg⟩
      have HG := Lib.hid hg; clear hg
      go_wp2_with fail
      refine (VA.out w1).mono ?_
      rintro e w2 ⟨rfl, rfl⟩
      by_cases h1 : z < 0
      · go_wp2_with fail
        all_goals exact bodyPost_ret (v := .tuple #[.int .i64 0, .int .i64 0, .bool false]) (by simp [results, Tryz.results65, go_sem]) rfl ⟨rfl, HG.out⟩
      · have h2 : 4194304 < z := by omega
        clear h0
        go_wp2_with fail
        all_goals exact bodyPost_ret (v := .tuple #[.int .i64 0, .int .i64 0, .bool false]) (by simp [results, Tryz.results65, go_sem]) rfl ⟨rfl, HG.out⟩
  · simp only [if_neg hc] at VA
    rw [if_neg (fun hh => hc hh.1)]
    go_enter Tryz.func65, Tryz.ntmps65
    go_wp2_with fail
    refine HP.out.mono ?_
    rintro e w1 ⟨rfl, hg⟩
    have HG := Lib.hid hg; clear hg
    go_wp2_with fail
    refine (VA.out w1).mono ?_
    rintro e w2 ⟨rfl, rfl⟩
    go_wp2_with fail
    exact bodyPost_ret (v := .tuple #[.int .i64 0, .int .i64 0, .bool false]) (by simp [results, Tryz.results65, go_sem]) rfl ⟨rfl, HG.out⟩
/-- no word of an object is nought -/
def nzB (S : Nat → Bool) (M : Nat → Nat) (x : Nat) : Bool := (wrdX S M x).all fun y => decide (y ≠ 0)
/-- what holds of all objects -/
def allO (N : Nat) (S : Nat → Bool) (p : Nat → Bool) : Bool := (List.range N).all fun a => !S a || p (a * 2)
theorem allO_iff {N : Nat} {S : Nat → Bool} {p : Nat → Bool} : allO N S p = true ↔ ∀ a, a < N → S a = true → p (a * 2) = true := by
  unfold allO
  rw [List.all_eq_true]
  constructor
  · intro h a ha hs
    have := h a (List.mem_range.2 ha)
    rw [hs] at this
    simpa using this
  · intro h a ha
    cases hs : S a with
    | false => rfl
    | true => simpa using h a (List.mem_range.1 ha) hs
/-- how far a walk through all objects is -/
def Done (S : Nat → Bool) (p : Nat → Bool) (k : Nat) : Prop := ∀ a, a < k → S a = true → p (a * 2) = true
theorem done_first {S : Nat → Bool} {p : Nat → Bool} {N x : Nat} (h : IsFrom N S 0 x) : (x = 0 ∧ allO N S p = true) ∨ ∃ k : Nat, x = k * 2 ∧ k < N ∧ S k = true ∧ Done S p k := by
  rcases h with ⟨h, hno⟩ | ⟨k, h1, h2, -, h3, hno⟩
  · exact Or.inl ⟨h, allO_iff.2 fun a ha hs => by rw [hno a (by omega) ha] at hs; cases hs⟩
  · exact Or.inr ⟨k, h1, h2, h3, fun a ha hs => by rw [hno a (by omega) ha] at hs; cases hs⟩
theorem done_next {S : Nat → Bool} {p : Nat → Bool} {N x k : Nat} (hd : Done S p k) (hp : p (k * 2) = true) (h : IsFrom N S (k + 1 : Int) x) : (x = 0 ∧ allO N S p = true) ∨ ∃ k' : Nat, x = k' * 2 ∧ k' < N ∧ k < k' ∧ S k' = true ∧ Done S p k' := by
  have key : ∀ a, S a = true → (a < k ∨ a = k) → p (a * 2) = true := fun a hs ha => by
    rcases ha with ha | rfl
    · exact hd a ha hs
    · exact hp
  rcases h with ⟨h, hno⟩ | ⟨k', h1, h2, h4, h3, hno⟩
  · exact Or.inl ⟨h, allO_iff.2 fun a ha hs => by
      by_cases hak : a < k ∨ a = k
      · exact key a hs hak
      · rw [hno a (by omega) ha] at hs; cases hs⟩
  · exact Or.inr ⟨k', h1, h2, by omega, h3, fun a ha hs => by
      by_cases hak : a < k ∨ a = k
      · exact key a hs hak
      · rw [hno a (by omega) ha] at hs; cases hs⟩
theorem done_bad {S : Nat → Bool} {p : Nat → Bool} {N k : Nat} (hk : k < N) (hs : S k = true) (hp : p (k * 2) = false) : allO N S p = false := by
  cases h : allO N S p with
  | false => rfl
  | true => rw [allO_iff.1 h k hk hs] at hp; cases hp
theorem Lk.s0 (k : Lk w B h N free S M L root sp cv) : S 0 = false := by
  cases h : S 0 with
  | false => rfl
  | true => have := (k.c.obj 0 h).1; omega
theorem Lk.good (k : Lk w B h N free S M L root sp cv) : GoodH N S M := by
  intro a ha
  obtain ⟨h1, h2, u, -⟩ := k.c.obj a ha
  have hz := cz4 u (k.c.small _)
  exact ⟨⟨by omega, by omega, ha, u⟩, fun hk => by rw [if_neg hk] at hz; omega⟩
theorem Lk.ptr (k : Lk w B h N free S M L root sp cv) {a : Nat} (ha : S a = true) : PtrIn S (a * 2) = true ∧ a < N ∧ a ≠ 0 ∧ a < 16777216 := by
  have := (k.c.lt ha)
  have := k.n
  exact ⟨ptrIn_iff.2 ⟨a, rfl, by omega, by omega, ha⟩, by omega, by omega, by omega⟩
theorem Lk.first (k : Lk w B h N free S M L root sp cv) : Calls Tryz.prog 53 #[.pointer (some ⟨h, 0, none⟩)] w fun e w' => ∃ x : Nat, e = .returned (.int .u64 (x : Int)) ∧ IsFrom N S 0 x ∧ Below w.heap.size w w' :=
  first_any B h N free S M w k.H k.c.most k.s0 k.T
theorem Lk.after (k : Lk w B h N free S M L root sp cv) {a : Nat} (ha : S a = true) : Calls Tryz.prog 54 #[.pointer (some ⟨h, 0, none⟩), .int .u64 ((a * 2 : Nat) : Int)] w fun e w' => ∃ x : Nat, e = .returned (.int .u64 (x : Int)) ∧ IsFrom N S (a + 1 : Int) x ∧ Below w.heap.size w w' := by
  rw [Int.natCast_mul]
  exact after_any B h N free a S M w k.H k.c.most k.s0 ha (k.ptr ha).2.1 k.T
set_option maxRecDepth 100000 in
set_option maxHeartbeats 1600000 in
theorem unmarked_any (k : Lk w B h N free S M L root sp cv) :
    Calls Tryz.prog 22 #[.pointer (some ⟨L, 0, none⟩)] w fun e w' => e = .returned (.bool (allO N S fun x => !mrkX S M x)) ∧ Below w.heap.size w w' := by
  have FI := Lib.hid k.first
  have y0 := k.at_.heap
  have K := Lib.hid k
  have hN := k.n
  clear k
  go_enter Tryz.func22, Tryz.ntmps22
  go_wp2_with fail
  refine FI.out.mono ?_
  rintro e w1 ⟨x0, rfl, hx0, hg1⟩
  have HX0 := Lib.hid (done_first (p := fun x => !mrkX S M x) hx0); have HG1 := Lib.hid hg1
  clear hx0 hg1 FI y0
  go_wp2_with fail
  go_loopg [3] (N + 1) (fun gg s3 wr => ∃ x : Nat, s3 = .int .u64 (x : Int) ∧ Below w.heap.size w wr ∧ ((x = 0 ∧ allO N S (fun x => !mrkX S M x) = true) ∨ ∃ k : Nat, x = k * 2 ∧ k < N ∧ S k = true ∧ N - k ≤ gg ∧ Done S (fun x => !mrkX S M x) k))
  case atStart =>
    refine ⟨x0, rfl, HG1.out, ?_⟩
    rcases HX0.out with h | ⟨k, h1, h2, h3, h4⟩
    · exact Or.inl h
    · exact Or.inr ⟨k, h1, h2, h3, by omega, h4⟩
  case round =>
    obtain ⟨x, rfl, hbr, hx⟩ := hrel
    have HBR := Lib.hid hbr
    rcases hx with ⟨rfl, hall⟩ | ⟨k, rfl, hk, hkS, hgk, hdone⟩
    · have HALL := Lib.hid hall
      clear hbr hall
      go_wp2_with fail
      go_ret
      exact ⟨by rw [HALL.out]; rfl, HBR.out⟩
    · have HGK := Lib.hid hgk; have HKS := Lib.hid hkS; have HDN := Lib.hid hdone
      have kr := K.out.later hbr
      have y0 := kr.at_.heap
      obtain ⟨hp, -, hk0, hk1⟩ := K.out.ptr hkS
      have HD := Lib.hid (head_any B h N free (k * 2) S M wr kr.H kr.c (by omega))
      simp only [hp, if_true] at HD
      have HBAD := Lib.hid (fun hm : mrkX S M (k * 2) = true => done_bad (p := fun x => !mrkX S M x) hk hkS (by show (!mrkX S M (k * 2)) = false; rw [hm]; rfl))
      have HNXT := Lib.hid (fun x' (hm : mrkX S M (k * 2) = false) (hf : IsFrom N S (k + 1 : Int) x') => done_next (p := fun x => !mrkX S M x) hdone (by show (!mrkX S M (k * 2)) = true; rw [hm]; rfl) hf)
      obtain ⟨xk, hxk⟩ : ∃ xk, k * 2 = xk := ⟨_, rfl⟩
      have HXK := Lib.hid hxk
      rw [hxk] at HD HBAD HNXT ⊢
      have hx0 : xk ≠ 0 := by omega
      clear hbr hgk hkS hdone hp kr hxk
      generalize clsX S M xk = vc at *
      generalize kndX S M xk = vk at *
      generalize sizX S M xk = vs at *
      generalize hH (infX S M xk) = vh at *
      generalize mrkX S M xk = vm at *
      go_wp2_with fail
      refine HD.out.mono ?_
      rintro e w2 ⟨rfl, hg2⟩
      have HB2 := Lib.hid (HBR.out.trans (hg2.mono HBR.out.size))
      clear hg2 HD y0
      obtain ⟨w3, hw3⟩ : ∃ w3, w3 = w2.alloc (.cells #[.int .u64 (vc : Int), .int .i64 vk, .int .i64 vs, .int .u32 vh, .bool vm] 119) := ⟨_, rfl⟩
      have hx3 : w3.heap[w2.heap.size]? = some (.cells #[.int .u64 (vc : Int), .int .i64 vk, .int .i64 vs, .int .u32 vh, .bool vm] 119 (0, 0)) := by rw [hw3]; exact heap_alloc_new w2 _
      have hb3 : Below w2.heap.size w2 w3 := by rw [hw3]; exact (Below.refl _ w2).alloc (Nat.le_refl _) _
      have HB3 := Lib.hid (HB2.out.trans (hb3.mono HB2.out.size))
      have y4 := cellO hx3 4
      simp at y4
      have K3 := K.out.later HB3.out
      have y0 := K3.at_.heap
      have AF := K3.after HKS.out
      rw [HXK.out] at AF
      have AFH := Lib.hid AF
      clear hb3 hx3 K3 AF
      go_upto_region 5 with fail
      rw [← hw3]
      clear hw3
      cases vm with
      | true =>
        go_wp2_with fail
        go_ret
        exact ⟨by rw [HBAD.out (by first | rfl | trivial)]; rfl, HB3.out⟩
      | false =>
        go_wp2_with fail
        refine AFH.out.mono ?_
        rintro e w4 ⟨x', rfl, hf, hg4⟩
        have HF := Lib.hid (HNXT.out x' (by first | rfl | trivial) hf)
        have HB4 := Lib.hid (HB3.out.trans (hg4.mono HB3.out.size))
        clear hf hg4 y0 y4
        go_wp2_with fail
        rcases HF.out with ⟨rfl, hall⟩ | ⟨k', rfl, h1, h2, h3, h4⟩
        · have HALL := Lib.hid hall
          go_roundg 0
          case measure => have := HGK.out; omega
          case rel => exact ⟨0, rfl, HB4.out, Or.inl ⟨rfl, HALL.out⟩⟩
        · have H3 := Lib.hid h3; have H4 := Lib.hid h4
          go_roundg (N - k')
          case measure => have := HGK.out; omega
          case rel => exact ⟨k' * 2, rfl, HB4.out, Or.inr ⟨k', rfl, h1, H3.out, Nat.le_refl _, H4.out⟩⟩
end
end Go.Proofs.YtibopjjicfiimaaGreatDoor
namespace Go.Proofs.YtibopjjicfiimaaGreatDoor
open Go.RowKit
set_option linter.unusedVariables false
noncomputable def closedB (S : Nat → Bool) (M : Nat → Nat) : Bool := @decide (ClosedP S M) (Classical.propDecidable _)
theorem closedB_iff {S : Nat → Bool} {M : Nat → Nat} : closedB S M = true ↔ ClosedP S M := by
  unfold closedB; exact @decide_eq_true_iff _ (Classical.propDecidable _)
section
variable {w : World} {B h N free L root : Nat} {S : Nat → Bool} {M : Nat → Nat} {sp : Nat → Nat} {cv : Value}
theorem wrdX_lt {x y : Nat} (k : Lk w B h N free S M L root sp cv) (h : y ∈ wrdX S M x) : y < 18446744073709551616 := by
  unfold wrdX at h
  split at h
  · obtain ⟨i, -, rfl⟩ := List.mem_map.1 h
    exact k.c.small _
  · cases h
theorem wrdX_len_le (k : Lk w B h N free S M L root sp cv) (x : Nat) : (wrdX S M x).length ≤ 6000 := by
  have h1 := wrdX_len S M x
  rw [h1]
  split
  · rename_i hc
    obtain ⟨a, rfl, h2, h3, h4⟩ := ptrIn_iff.1 hc.1
    obtain ⟨h5, h6, u, -⟩ := k.c.obj a h4
    have hz := cz4 u (k.c.small _)
    have e2 : a * 2 / 2 = a := by omega
    have ek : kndX S M (a * 2) = hK (M (a + 1)) := by unfold kndX infX; rw [if_pos hc.1, e2]
    have es : sizX S M (a * 2) = hS (M (a + 1)) := by unfold sizX infX; rw [if_pos hc.1, e2]
    rw [if_neg (by rw [← ek]; exact hc.2)] at hz
    have := k.n
    rw [es]; omega
  · omega
set_option maxRecDepth 100000 in
set_option maxHeartbeats 1600000 in
theorem closed2_any (k : Lk w B h N free S M L root sp cv) :
    Calls Tryz.prog 21 #[.pointer (some ⟨L, 0, none⟩)] w fun e w' => e = .returned (.bool (closedB S M && allO N S (nzB S M))) ∧ Below w.heap.size w w' := by
  have CL := Lib.hid (closed_any B h N free S M w k.H k.good k.s0 k.T)
  have y0 := k.at_.heap
  have K := Lib.hid k
  have hN := k.n
  clear k
  go_enter Tryz.func21, Tryz.ntmps21
  go_wp2_with fail
  refine CL.out.mono ?_
  rintro e w1 ⟨b, rfl, hb0, hg1⟩
  have hb : closedB S M = b := by rw [Bool.eq_iff_iff, closedB_iff, hb0]
  clear hb0
  have HCB := Lib.hid hb
  have HG1 := Lib.hid hg1
  clear hb hg1 CL y0
  cases b with
  | false =>
    go_wp2_with fail
    go_ret
    exact ⟨by rw [HCB.out]; rfl, HG1.out⟩
  | true =>
    have kr := K.out.later HG1.out
    have y0 := kr.at_.heap
    have FI := Lib.hid kr.first
    clear kr
    go_wp2_with fail
    refine FI.out.mono ?_
    rintro e w2 ⟨x0, rfl, hx0, hg2⟩
    have HX0 := Lib.hid (done_first (p := nzB S M) hx0); have HG2 := Lib.hid (HG1.out.trans (hg2.mono HG1.out.size))
    clear hx0 hg2 FI y0
    go_wp2_with fail
    go_loopg [3] (N + 1) (fun gg s3 wr => ∃ x : Nat, s3 = .int .u64 (x : Int) ∧ Below w.heap.size w wr ∧ ((x = 0 ∧ allO N S (nzB S M) = true) ∨ ∃ k : Nat, x = k * 2 ∧ k < N ∧ S k = true ∧ N - k ≤ gg ∧ Done S (nzB S M) k))
    case atStart =>
      refine ⟨x0, rfl, HG2.out, ?_⟩
      rcases HX0.out with h | ⟨k, h1, h2, h3, h4⟩
      · exact Or.inl h
      · exact Or.inr ⟨k, h1, h2, h3, by omega, h4⟩
    case round =>
      obtain ⟨x, rfl, hbr, hx⟩ := hrel
      have HBR := Lib.hid hbr
      rcases hx with ⟨rfl, hall⟩ | ⟨k, rfl, hk, hkS, hgk, hdone⟩
      · have HALL := Lib.hid hall
        clear hbr hall
        go_wp2_with fail
        go_ret
        exact ⟨by rw [HCB.out, HALL.out]; rfl, HBR.out⟩
      · have HGK := Lib.hid hgk; have HKS := Lib.hid hkS
        have kr := K.out.later hbr
        obtain ⟨hp, -, hk0, hk1⟩ := K.out.ptr hkS
        have WD := Lib.hid (wrds_any (k * 2) kr (by omega))
        have hwl := wrdX_len_le K.out (k * 2)
        have HBAD := Lib.hid (fun hm : nzB S M (k * 2) = false => done_bad (p := nzB S M) hk hkS hm)
        have HNXT := Lib.hid (fun x' (hm : nzB S M (k * 2) = true) (hf : IsFrom N S (k + 1 : Int) x') => done_next (p := nzB S M) hdone hm hf)
        have HNZ := Lib.hid (show nzB S M (k * 2) = (wrdX S M (k * 2)).all (fun y => decide (y ≠ 0)) from rfl)
        obtain ⟨xk, hxk⟩ : ∃ xk, k * 2 = xk := ⟨_, rfl⟩
        have HXK := Lib.hid hxk
        rw [hxk] at WD HBAD HNXT HNZ hwl ⊢
        have hx0 : xk ≠ 0 := by omega
        clear hbr hgk hkS hdone hp kr hxk
        generalize wrdX S M xk = ws at *
        generalize nzB S M xk = nb at *
        go_wp2_with fail
        refine WD.out.mono ?_
        rintro e w3 ⟨v, rfl, hwa, -, hg3⟩
        have HB3 := Lib.hid (HBR.out.trans (hg3.mono HBR.out.size))
        have HWA := Lib.hid hwa
        obtain ⟨va, vc, rfl, -⟩ := hwa.get
        clear hg3 WD hwa
        go_wp2_with fail
        go_loopg [29] ws.length (fun gg s29 wr => ∃ j : Nat, gg = ws.length - j ∧ j ≤ ws.length ∧ s29 = .int .i64 (j : Int) ∧ Below w3.heap.size w3 wr ∧ ∀ i (hi : i < ws.length), i < j → ws[i] ≠ 0)
        case atStart => exact ⟨0, rfl, by omega, rfl, Below.refl _ _, fun i hi h => by omega⟩
        case round =>
          obtain ⟨j, hgj, hj, rfl, hbr, hnz⟩ := hrel
          have HGJ := Lib.hid hgj; have HBR' := Lib.hid hbr; have HNJ := Lib.hid hnz
          by_cases hlt : j < ws.length
          · obtain ⟨va', vc', hue, -, -, hcu⟩ := (HWA.out.later hbr).get
            simp only [Value.slice.injEq, true_and] at hue
            obtain ⟨rfl, rfl⟩ := hue
            obtain ⟨xb, xo, rfl, hxl, hxc⟩ := hcu j hlt
            have HNJ2 := Lib.hid (fun hz : ws[j] ≠ 0 => show ∀ i (hi : i < ws.length), i < j + 1 → ws[i] ≠ 0 from fun i hi h => by
              by_cases e : i = j
              · subst e; exact hz
              · exact HNJ.out i hi (by omega))
            have HBD := Lib.hid (fun hz : ws[j] = 0 => show nb = false from by
              rw [HNZ.out, Bool.eq_false_iff]
              intro ha
              have := List.all_eq_true.1 ha _ (List.getElem_mem hlt)
              rw [hz] at this; simp at this)
            clear hgj hbr hnz hcu
            generalize ws[j] = y at *
            by_cases hy : y = 0
            · subst hy
              go_wp2_with fail
              go_ret
              exact ⟨by rw [HBAD.out (HBD.out (by first | rfl | trivial)), Bool.and_false]; rfl, HB3.out.trans (HBR'.out.mono HB3.out.size)⟩
            · have HNN := Lib.hid (HNJ2.out hy)
              go_wp2_with fail
              go_roundg (ws.length - (j + 1))
              case measure => rw [HGJ.out]; omega
              case rel => exact ⟨j + 1, rfl, by omega, by go_num, HBR'.out, HNN.out⟩
          · have hnb : nb = true := by
              rw [HNZ.out]
              refine List.all_eq_true.2 fun y hy => ?_
              obtain ⟨i, hi, rfl⟩ := List.mem_iff_getElem.1 hy
              simpa using HNJ.out i hi (by omega)
            have HNB := Lib.hid hnb
            have HB4 := Lib.hid (HB3.out.trans (HBR'.out.mono HB3.out.size))
            have K4 := K.out.later HB4.out
            have y0 := K4.at_.heap
            have AF := K4.after HKS.out
            rw [HXK.out] at AF
            have AFH := Lib.hid AF
            clear hnb hgj hbr hnz K4 AF
            go_wp2_with fail
            refine AFH.out.mono ?_
            rintro e w4 ⟨x', rfl, hf, hg4⟩
            have HF := Lib.hid (HNXT.out x' HNB.out hf)
            have HB5 := Lib.hid (HB4.out.trans (hg4.mono HB4.out.size))
            clear hf hg4 y0
            go_wp2_with fail
            rcases HF.out with ⟨rfl, hall⟩ | ⟨k', rfl, h1, h2, h3, h4⟩
            · have HALL := Lib.hid hall
              go_roundg 0
              case measure => have := HGK.out; omega
              case rel => exact ⟨0, rfl, HB5.out, Or.inl ⟨rfl, HALL.out⟩⟩
            · have H3 := Lib.hid h3; have H4 := Lib.hid h4
              go_roundg (N - k')
              case measure => have := HGK.out; omega
              case rel => exact ⟨k' * 2, rfl, HB5.out, Or.inr ⟨k', rfl, h1, H3.out, Nat.le_refl _, H4.out⟩⟩
end
end Go.Proofs.YtibopjjicfiimaaGreatDoor
