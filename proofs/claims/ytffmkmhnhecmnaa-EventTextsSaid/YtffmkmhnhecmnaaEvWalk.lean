/- The walks of EventBegins and EventJoins. -/
import Derived.Test.YtffmkmhnhecmnaaEvAwake
namespace Go.Proofs.Ytffmkmhnhecmnaa
open Go.RowKit
theorem grown_refl (w : World) (r : Option Nat) : w.grownBy w r := ⟨rfl, rfl, rfl, Nat.le_refl _, fun _ _ _ => rfl⟩
theorem wpList_append_row {P : Program} {w : World} {ops : Array Oper} {rest : List Oper} {o : Oper} {a : Act} {Q : Exit → Act → World → Prop} (hgd : o.guard = none) (s x : Operand) (t : TypeId)
    (ho : o.op = .call { callee := .builtin .append, args := #[s, x], argTypes := #[t, t] })
    (base : Nat) (e : TypeId) (i : TypeInfo) (z : Value) (size bytes : Nat) (ht : P.underlying t = some (.slice e)) (hi : P.info? e = some i) (hz : i.zero = some z)
    (hsize : i.size = size) (hby : i.bytes = bytes) (hzs : z.cells.size = size) (hsz : 0 < size)
    (v : Value) (n : Nat) (xs : List Value) (hs : a.eval s = v) (hown : w.ownsRow base e size v n xs)
    (ad : Option Addr) (m c : Nat) (news : List Value) (hx : a.eval x = .slice ad m c) (hl : news.length = m * size) (hnews : RowAt w ad news) (hnone : ad = none → c = 0) (hmc : m ≤ c) (h1 : ∀ u ∈ news, u.oneCell' = true)
    (h63 : n + m ≤ maxLen) (hbytes : (n + m) * bytes ≤ 140737488355328) (hbase : base ≤ w.heap.size)
    (h : ∀ v' w', w'.ownsRow base e size v' (n + m) (xs ++ news) → w.grownBy w' v.ownBlock → wpList P ops Q rest (a.put o.dst v') w') : wpList P ops Q (o :: rest) a w := by
  cases ad with
  | none =>
    have hc := hnone rfl
    subst hc
    obtain rfl : m = 0 := by omega
    obtain rfl : news = [] := List.length_eq_zero_iff.1 (by omega)
    refine wpList_append_own_none hgd s x t ho base e i size ht hi v n xs hs hown hx (h v w ?_ (grown_refl _ _))
    rw [List.append_nil]; exact hown
  | some ad => exact wpList_append_own w hgd s x t ho base e i z size bytes ht hi hz hsize hby hzs hsz v n xs hs hown ad m c news hx hl hnews.add h1 h63 hbytes hbase (fun v' w' h1 h2 _ => h v' w' h1 h2)
theorem EvCells.ones {w : World} {xs : List Value} {es : List Ev} (h : EvCells w xs es) : ∀ u ∈ xs, u.oneCell' = true := by
  intro u hu
  obtain ⟨j, hj, rfl⟩ := List.getElem_of_mem hu
  have hl := h.1
  have hi : j / 3 < es.length := by omega
  obtain ⟨bv, nm, c0, c1, c2, -, hb⟩ := h.2 (j / 3) es[j / 3] (List.getElem?_eq_getElem hi)
  have hr : j = j / 3 * 3 ∨ j = j / 3 * 3 + 1 ∨ j = j / 3 * 3 + 2 := by omega
  have hj' := List.getElem?_eq_getElem hj
  rcases hr with hr | hr | hr
  · rw [← hr, hj'] at c0; injection c0 with c0; rw [c0]; rfl
  · rw [← hr, hj'] at c1; injection c1 with c1; rw [c1]; obtain ⟨a, cap, rfl, -⟩ := hb; rfl
  · rw [← hr, hj'] at c2; injection c2 with c2; rw [c2]; rfl
theorem smallCut (l : List Ev) : smallEvs ((l.map cutEv).take 20) := by
  intro e he
  obtain ⟨x, -, rfl⟩ := List.mem_map.1 (List.mem_of_mem_take he)
  simp [cutEv, List.length_take]
  omega
theorem lenCut (l : List Ev) : ((l.map cutEv).take 20).length ≤ 20 := by rw [List.length_take]; omega
theorem smallEvs.append {l m : List Ev} (h : smallEvs l) (k : smallEvs m) : smallEvs (l ++ m) := fun e he => (List.mem_append.1 he).elim (h e) (k e)
theorem evs_none {w : World} : EvsAt w (.slice none 0 0) [] := ⟨none, 0, [], rfl, Nat.le_refl _, by unfold maxLen; omega, Or.inl rfl, EvCells.nil w, fun _ => rfl⟩
set_option maxRecDepth 100000 in
set_option maxHeartbeats 800000 in
theorem beginsWalk (v u : Value) (a b : List Ev) (w : World) (hv : EvsAt w v a) (hu : EvsAt w u b) :
    Calls Try.prog 3 #[v, u] w fun e w' => e = .returned (.bool true) ∧ Below w.heap.size w w' := by
  obtain ⟨i0, hi, hz0, hz1, hz2⟩ := info_parts evInfo
  have HV := Lib.hid hv; have HU := Lib.hid hu; clear hv hu
  go_enter Try.func3, Try.ntmps3
  go_wp2_with fail
  refine (awake25 _).mono ?_
  rintro e w1 ⟨rfl, hg1⟩
  have H1 := Lib.hid hg1; clear hg1
  go_wp2_with fail
  refine (own25_any v a _ (HV.out.later H1.out)).mono ?_
  rintro e w2 ⟨x, rfl, hx, hg2⟩
  have sx := Lib.hid (smallCut a); have lx := Lib.hid (lenCut a)
  generalize (a.map cutEv).take 20 = X at *
  have H2 := Lib.hid (H1.out.trans (hg2.mono H1.out.size)); have HX := Lib.hid hx; clear hg2 hx H1
  go_wp2_with fail
  refine (own25_any u b _ (HU.out.later H2.out)).mono ?_
  rintro e w3 ⟨y, rfl, hy, hg3⟩
  have sy := Lib.hid (smallCut b); have ly := Lib.hid (lenCut b)
  generalize (b.map cutEv).take 20 = Y at *
  have H3 := Lib.hid (H2.out.trans (hg3.mono H2.out.size)); have HY := Lib.hid hy; have HX3 := Lib.hid (HX.out.later hg3); clear hg3 hy H2 HX HU HV
  go_wp2_with fail
  refine (told_any x X _ HX3.out (by have := lx.out; omega)).mono ?_
  rintro e w4 ⟨tx, rfl, htx, hg4⟩
  have H4 := Lib.hid (H3.out.trans (hg4.mono H3.out.size)); have HX4 := Lib.hid (HX3.out.later hg4); have HY4 := Lib.hid (HY.out.later hg4); have HT := Lib.hid htx; clear hg4 H3 HX3 HY htx
  go_wp2_with fail
  refine (told_any y Y _ HY4.out (by have := ly.out; omega)).mono ?_
  rintro e w5 ⟨ty, rfl, hty, hg5⟩
  have H5 := Lib.hid (H4.out.trans (hg5.mono H4.out.size)); have HX5 := Lib.hid (HX4.out.later hg5); have HY5 := Lib.hid (HY4.out.later hg5); have HT5 := Lib.hid (HT.out.later hg5); have HS5 := Lib.hid hty; clear hg5 H4 HX4 HY4 HT hty
  go_wp2_with fail
  refine (rcommon_any tx ty X Y _ HT5.out HS5.out sx.out sy.out).mono ?_
  rintro e w6 ⟨rfl, hg6⟩
  have H6 := Lib.hid (H5.out.trans (hg6.mono H5.out.size)); have HX6 := Lib.hid (HX5.out.later hg6); have HY6 := Lib.hid (HY5.out.later hg6); clear hg6 H5 HX5 HY5 HT5 HS5
  obtain ⟨ax, cx, xs, rfl, x1, x2, x3, x4, x5⟩ := HX6.out
  obtain ⟨ay, cy, ys, rfl, y1, y2, y3, y4, y5⟩ := HY6.out
  have X3 := Lib.hid x3; have X4 := Lib.hid x4; have X5 := Lib.hid x5
  have Y3 := Lib.hid y3; have Y4 := Lib.hid y4; have Y5 := Lib.hid y5
  clear x3 x4 x5 y3 y4 y5
  unfold maxLen at x2 y2
  have ho := World.ownsRow_lit w6 #[] 0 (Nat.le_refl _) (e := 45) (size := 3) (by decide) rfl
  go_wp2_with (at_builtin; go_loud (refine wpList_append_row rfl _ _ 24 rfl w6.heap.size 45 i0 _ 3 48 Try.underlying24 hi hz0 hz1 hz2 rfl (by decide) _ _ _ rfl ho ax X.length cx xs rfl (X4.out.1) (X3.out.later ?b1) X5.out x1 X4.out.ones ?c3 ?c4 ?c5 ?_))
  case b1 => repeat (first | with_reducible exact Below.refl _ _ | ((with_reducible refine Below.setCell ?_ ?_ _); rotate_left; focus (first | (simp; done) | (simp; omega) | omega)) | ((with_reducible refine Below.alloc ?_ ?_ _); rotate_left; focus (first | (simp; done) | (simp; omega) | omega)) | (with_reducible refine Below.drew ?_))
  case c3 => have := lx.out; unfold maxLen; omega
  case c4 => have := lx.out; omega
  case c5 => simp
  intro z1 w7 hz1 hgr1
  have b7 : Below w6.heap.size w6 w7 := by
    refine Below.grown ?_ hgr1 ?_ (fun q hq => (ho.lt q hq).1)
    · repeat (first | with_reducible exact Below.refl _ _ | ((with_reducible refine Below.setCell ?_ ?_ _); rotate_left; focus (first | (simp; done) | (simp; omega) | omega)) | ((with_reducible refine Below.alloc ?_ ?_ _); rotate_left; focus (first | (simp; done) | (simp; omega) | omega)) | (with_reducible refine Below.drew ?_))
    · simp
  have HZ1 := Lib.hid hz1; have B7 := Lib.hid b7; have hs7 := b7.size; clear hz1 hgr1 b7 ho
  go_wp2_with (at_builtin; go_loud (refine wpList_append_row rfl _ _ 24 rfl w6.heap.size 45 i0 _ 3 48 Try.underlying24 hi hz0 hz1 hz2 rfl (by decide) _ _ _ rfl HZ1.out ay Y.length cy ys rfl (Y4.out.1) (Y3.out.later B7.out) Y5.out y1 Y4.out.ones ?c3 ?c4 hs7 ?_))
  case c3 => have := lx.out; have := ly.out; unfold maxLen; omega
  case c4 => have := lx.out; have := ly.out; omega
  intro z2 w8 hz2' hgr2
  have b8 : Below w6.heap.size w6 w8 := B7.out.grown hgr2 hs7 (fun q hq => (HZ1.out.lt q hq).1)
  have hboth : EvsAt w8 z2 (X ++ Y) := evs_of_owns hz2' ((X4.out.append Y4.out).later b8)
  have HB := Lib.hid hboth; have B8 := Lib.hid b8; have H8 := Lib.hid (H6.out.trans (b8.mono H6.out.size)); have HX8 := Lib.hid (HX6.out.later b8); have HY8 := Lib.hid (HY6.out.later b8)
  obtain ⟨ab, cb, zs, rfl, -⟩ := hboth
  clear hz2' hgr2 b8 HZ1 B7 hs7 H6 HX6 HY6 B8 X3 X4 X5 Y3 Y4 Y5
  have hlen := commonL_le X Y
  have LEN := Lib.hid hlen; clear hlen
  have P2 := Lib.hid (commonL_self_append X Y)
  have C1 := Lib.hid (fun W (hW : Below w8.heap.size w8 W) => common_any _ _ X Y W (HX8.out.later hW) (HY8.out.later hW) sx.out sy.out)
  have C2 := Lib.hid (fun W (hW : Below w8.heap.size w8 W) => common_any _ _ Y X W (HY8.out.later hW) (HX8.out.later hW) sy.out sx.out)
  rw [commonL_comm Y X] at C2
  have Q1 := Lib.hid (fun W (hW : Below w8.heap.size w8 W) => prefix_any _ _ X Y W (HX8.out.later hW) (HY8.out.later hW) sx.out sy.out)
  have Q2 := Lib.hid (show ∀ W, Below w8.heap.size w8 W → Calls Try.prog 11 #[.slice ax X.length cx, .slice ab (X ++ Y).length cb] W fun e w' => e = .returned (.bool (decide (commonL X (X ++ Y) = X.length))) ∧ Below W.heap.size W w' from fun W (hW : Below w8.heap.size w8 W) => prefix_any _ _ X (X ++ Y) W (HX8.out.later hW) (HB.out.later hW) sx.out (sx.out.append sy.out))
  rw [P2.out, decide_eq_true rfl] at Q2
  simp only [List.length_append] at Q2
  have Q3 := Lib.hid (show ∀ W, Below w8.heap.size w8 W → Calls Try.prog 11 #[.slice none 0 0, .slice ay Y.length cy] W fun e w' => e = .returned (.bool (decide (commonL [] Y = ([] : List Ev).length))) ∧ Below W.heap.size W w' from fun W (hW : Below w8.heap.size w8 W) => prefix_any _ _ [] Y W evs_none (HY8.out.later hW) (fun e he => by cases he) sy.out)
  rw [show commonL [] Y = 0 by simp [commonL], decide_eq_true (show 0 = ([] : List Ev).length from rfl)] at Q3
  by_cases q : commonL X Y = X.length
  · have z : (((commonL X Y : Nat) : Int) == ((X.length : Nat) : Int)) = true := by rw [q]; simp
    rw [decide_eq_true q] at Q1
    clear q
    go_wp2_with fail
    refine (C1.out _ (Below.refl _ _)).mono ?_
    rintro e w9 ⟨rfl, hg9⟩
    have H9 := Lib.hid hg9; clear hg9
    go_wp2_with fail
    refine (C2.out _ H9.out).mono ?_
    rintro e w10 ⟨rfl, hg10⟩
    have H10 := Lib.hid (H9.out.trans (hg10.mono H9.out.size)); clear hg10 H9
    go_wp2_with fail
    refine (Q1.out _ H10.out).mono ?_
    rintro e w11 ⟨rfl, hg11⟩
    have H11 := Lib.hid (H10.out.trans (hg11.mono H10.out.size)); clear hg11 H10
    go_wp2_with fail
    refine (Q2.out _ H11.out).mono ?_
    rintro e w12 ⟨rfl, hg12⟩
    have H12 := Lib.hid (H11.out.trans (hg12.mono H11.out.size)); clear hg12 H11
    go_wp2_with fail
    refine (Q3.out _ H12.out).mono ?_
    rintro e w13 ⟨rfl, hg13⟩
    have H13 := Lib.hid (H12.out.trans (hg13.mono H12.out.size)); clear hg13 H12
    go_wp2_with fail
    go_ret
    exact ⟨rfl, H8.out.trans (H13.out.mono H8.out.size)⟩
  · have z : (((commonL X Y : Nat) : Int) == ((X.length : Nat) : Int)) = false := by rw [beq_eq_false_iff_ne]; omega
    rw [decide_eq_false q] at Q1
    clear q
    go_wp2_with fail
    refine (C1.out _ (Below.refl _ _)).mono ?_
    rintro e w9 ⟨rfl, hg9⟩
    have H9 := Lib.hid hg9; clear hg9
    go_wp2_with fail
    refine (C2.out _ H9.out).mono ?_
    rintro e w10 ⟨rfl, hg10⟩
    have H10 := Lib.hid (H9.out.trans (hg10.mono H9.out.size)); clear hg10 H9
    go_wp2_with fail
    refine (Q1.out _ H10.out).mono ?_
    rintro e w11 ⟨rfl, hg11⟩
    have H11 := Lib.hid (H10.out.trans (hg11.mono H10.out.size)); clear hg11 H10
    go_wp2_with fail
    refine (Q2.out _ H11.out).mono ?_
    rintro e w12 ⟨rfl, hg12⟩
    have H12 := Lib.hid (H11.out.trans (hg12.mono H11.out.size)); clear hg12 H11
    go_wp2_with fail
    refine (Q3.out _ H12.out).mono ?_
    rintro e w13 ⟨rfl, hg13⟩
    have H13 := Lib.hid (H12.out.trans (hg13.mono H12.out.size)); clear hg13 H12
    go_wp2_with fail
    go_ret
    exact ⟨rfl, H8.out.trans (H13.out.mono H8.out.size)⟩
end Go.Proofs.Ytffmkmhnhecmnaa
