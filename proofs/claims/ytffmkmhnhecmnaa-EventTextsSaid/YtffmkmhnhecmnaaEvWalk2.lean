/- The walk of EventJoins. -/
import Derived.Test.YtffmkmhnhecmnaaEvWalk
namespace Go.Proofs.Ytffmkmhnhecmnaa
open Go.RowKit
theorem wpList_append_row_want {P : Program} {w : World} {ops : Array Oper} {rest : List Oper} {o : Oper} {a : Act} {Q : Exit → Act → World → Prop} (hw : Region.wanted o (yielded ops a.tmps) = true) (s x : Operand) (t : TypeId)
    (ho : o.op = .call { callee := .builtin .append, args := #[s, x], argTypes := #[t, t] })
    (base : Nat) (e : TypeId) (i : TypeInfo) (z : Value) (size bytes : Nat) (ht : P.underlying t = some (.slice e)) (hi : P.info? e = some i) (hz : i.zero = some z)
    (hsize : i.size = size) (hby : i.bytes = bytes) (hzs : z.cells.size = size) (hsz : 0 < size)
    (v : Value) (n : Nat) (xs : List Value) (hs : a.eval s = v) (hown : w.ownsRow base e size v n xs)
    (ad : Option Addr) (m c : Nat) (news : List Value) (hx : a.eval x = .slice ad m c) (hl : news.length = m * size) (hnews : RowAt w ad news) (hnone : ad = none → c = 0) (hmc : m ≤ c) (h1 : ∀ u ∈ news, u.oneCell' = true)
    (h63 : n + m ≤ maxLen) (hbytes : (n + m) * bytes ≤ 140737488355328) (hbase : base ≤ w.heap.size)
    (h : ∀ v' w', w'.ownsRow base e size v' (n + m) (xs ++ news) → w.grownBy w' v.ownBlock → wpList P ops Q rest (a.put o.dst v') w') : wpList P ops Q (o :: rest) a w := by
  refine BigFrame.wpList_want hw fun K hK => ?_
  cases ad with
  | none =>
    have hc := hnone rfl
    subst hc
    obtain rfl : m = 0 := by omega
    obtain rfl : news = [] := List.length_eq_zero_iff.1 (by omega)
    have hrun := run_append_owned_none (P := P) (w := w) base t o.type e i size ht hi v n xs hown
    unfold Oper.wp
    simp [execOp, ho, resolve, invoke, builtin, hs, hx, hrun, Result.andThen]
    exact hK _ _ (h v w (by rw [List.append_nil]; exact hown) (grown_refl _ _))
  | some ad => exact wp_append_own w s x t ho base e i z size bytes ht hi hz hsize hby hzs hsz v n xs hs hown ad m c news hx hl hnews.add h1 h63 hbytes hbase (fun v' w' h1 h2 _ => hK _ _ (h v' w' h1 h2))
set_option maxRecDepth 100000 in
set_option maxHeartbeats 800000 in
theorem joinsWalk (v u : Value) (a b : List Ev) (w : World) (hv : EvsAt w v a) (hu : EvsAt w u b) :
    Calls Try.prog 4 #[v, u] w fun e w' => e = .returned (.bool true) ∧ Below w.heap.size w w' := by
  obtain ⟨i0, hi, hz0, hz1, hz2⟩ := info_parts evInfo
  have HV := Lib.hid hv; have HU := Lib.hid hu; clear hv hu
  go_enter Try.func4, Try.ntmps4
  go_wp2_with fail
  refine (awake25 _).mono ?_
  rintro e w1 ⟨rfl, hg1⟩
  have H1 := Lib.hid hg1; clear hg1
  go_wp2_with fail
  refine (own25_any v a _ (HV.out.later H1.out)).mono ?_
  rintro e w2 ⟨x, rfl, hx, hg2⟩
  have sx := Lib.hid (smallCut a); have lx := Lib.hid (lenCut a)
  generalize (a.map cutEv).take 20 = X at *
  have H2 := Lib.hid (H1.out.trans (hg2.mono H1.out.size)); have HX := Lib.hid hx; clear hg2 hx H1
  go_wp2_with fail
  refine (own25_any u b _ (HU.out.later H2.out)).mono ?_
  rintro e w6 ⟨y, rfl, hy, hg3⟩
  have sy := Lib.hid (smallCut b); have ly := Lib.hid (lenCut b)
  generalize (b.map cutEv).take 20 = Y at *
  have H6 := Lib.hid (H2.out.trans (hg3.mono H2.out.size)); have HY6 := Lib.hid hy; have HX6 := Lib.hid (HX.out.later hg3); clear hg3 hy H2 HX HU HV
  obtain ⟨ax, cx, xs, rfl, x1, x2, x3, x4, x5⟩ := HX6.out
  obtain ⟨ay, cy, ys, rfl, y1, y2, y3, y4, y5⟩ := HY6.out
  have X3 := Lib.hid x3; have X4 := Lib.hid x4; have X5 := Lib.hid x5
  have Y3 := Lib.hid y3; have Y4 := Lib.hid y4; have Y5 := Lib.hid y5
  clear x3 x4 x5 y3 y4 y5
  unfold maxLen at x2 y2
  have ho := World.ownsRow_lit w6 #[] 0 (Nat.le_refl _) (e := 45) (size := 3) (by decide) rfl
  go_wp2_with (at_builtin; go_loud (refine wpList_append_row rfl _ _ 24 rfl w6.heap.size 45 i0 _ 3 48 Try.underlying24 hi hz0 hz1 hz2 rfl (by decide) _ _ _ rfl ho ax X.length cx xs rfl (X4.out.1) (X3.out.later ?b1) X5.out x1 X4.out.ones ?c3 ?c4 ?c5 ?_))
  case b1 => repeat (first | with_reducible exact Below.refl _ _ | ((with_reducible refine Below.setCell ?_ ?_ _); rotate_left; focus (first | (simp; done) | (simp; omega) | omega)) | ((with_reducible refine Below.alloc ?_ ?_ _); rotate_left; focus (first | (simp; done) | (simp; omega) | omega)) | (with_reducible refine Below.drew ?_))
  case c3 => have := lx.out; unfold maxLen; omega
  case c4 => have := lx.out; omega
  case c5 => simp
  intro z1 w7 hz1 hgr1
  have b7 : Below w6.heap.size w6 w7 := by
    refine Below.grown ?_ hgr1 ?_ (fun q hq => (ho.lt q hq).1)
    · repeat (first | with_reducible exact Below.refl _ _ | ((with_reducible refine Below.setCell ?_ ?_ _); rotate_left; focus (first | (simp; done) | (simp; omega) | omega)) | ((with_reducible refine Below.alloc ?_ ?_ _); rotate_left; focus (first | (simp; done) | (simp; omega) | omega)) | (with_reducible refine Below.drew ?_))
    · simp
  have HZ1 := Lib.hid hz1; have B7 := Lib.hid b7; have hs7 := b7.size; clear hz1 hgr1 b7 ho
  go_wp2_with (at_builtin; go_loud (refine wpList_append_row rfl _ _ 24 rfl w6.heap.size 45 i0 _ 3 48 Try.underlying24 hi hz0 hz1 hz2 rfl (by decide) _ _ _ rfl HZ1.out ay Y.length cy ys rfl (Y4.out.1) (Y3.out.later B7.out) Y5.out y1 Y4.out.ones ?c3 ?c4 hs7 ?_))
  case c3 => have := lx.out; have := ly.out; unfold maxLen; omega
  case c4 => have := lx.out; have := ly.out; omega
  intro z2 w8 hz2' hgr2
  have b8 : Below w6.heap.size w6 w8 := B7.out.grown hgr2 hs7 (fun q hq => (HZ1.out.lt q hq).1)
  have hboth : EvsAt w8 z2 (X ++ Y) := evs_of_owns hz2' ((X4.out.append Y4.out).later b8)
  have HB := Lib.hid hboth; have B8 := Lib.hid b8; have H8 := Lib.hid (H6.out.trans (b8.mono H6.out.size)); have HX8 := Lib.hid (HX6.out.later b8); have HY8 := Lib.hid (HY6.out.later b8)
  obtain ⟨ab, cb, zs, rfl, -⟩ := hboth
  clear hz2' hgr2 b8 HZ1 B7 hs7 H6 HX6 HY6 B8 X3 X4 X5 Y3 Y4 Y5
  have T1 := Lib.hid (fun W (hW : Below w8.heap.size w8 W) => text_any _ (X ++ Y) W (HB.out.later hW) (sx.out.append sy.out) (by have := lx.out; have := ly.out; rw [List.length_append]; omega))
  rw [textL_append] at T1
  simp only [List.length_append] at T1
  have T2 := Lib.hid (fun W (hW : Below w8.heap.size w8 W) => text_any _ X W (HX8.out.later hW) sx.out (by have := lx.out; omega))
  have T3 := Lib.hid (fun W (hW : Below w8.heap.size w8 W) => text_any _ Y W (HY8.out.later hW) sy.out (by have := ly.out; omega))
  have S1 := Lib.hid (fun W (hW : Below w8.heap.size w8 W) => shown_any _ (X ++ Y) W (HB.out.later hW) (sx.out.append sy.out) (by have := lx.out; have := ly.out; rw [List.length_append]; omega))
  rw [shownL_append] at S1
  simp only [List.length_append] at S1
  have S2 := Lib.hid (fun W (hW : Below w8.heap.size w8 W) => shown_any _ X W (HX8.out.later hW) sx.out (by have := lx.out; omega))
  have S3 := Lib.hid (fun W (hW : Below w8.heap.size w8 W) => shown_any _ Y W (HY8.out.later hW) sy.out (by have := ly.out; omega))
  have C1 := Lib.hid (fun W (hW : Below w8.heap.size w8 W) => common_any _ _ (X ++ Y) X W (HB.out.later hW) (HX8.out.later hW) (sx.out.append sy.out) sx.out)
  rw [commonL_comm (X ++ Y) X, commonL_self_append] at C1
  simp only [List.length_append] at C1
  have hsz : ¬ ((⟨(textL X).toArray⟩ : ByteArray).size + (⟨(textL Y).toArray⟩ : ByteArray).size > 9223372036854775807) := by
    have a1 := textL_len X sx.out
    have a2 := textL_len Y sy.out
    have := lx.out
    have := ly.out
    rw [str_size, str_size]
    omega
  have hap := str_append (textL X) (textL Y)
  go_wp2_with fail
  refine (T1.out _ (Below.refl _ _)).mono ?_
  rintro e w9 ⟨rfl, hg9⟩
  have H9 := Lib.hid hg9; clear hg9
  go_wp2_with fail
  refine (T2.out _ H9.out).mono ?_
  rintro e w10 ⟨rfl, hg10⟩
  have H10 := Lib.hid (H9.out.trans (hg10.mono H9.out.size)); clear hg10 H9
  go_wp2_with fail
  refine (T3.out _ H10.out).mono ?_
  rintro e w11 ⟨rfl, hg11⟩
  have H11 := Lib.hid (H10.out.trans (hg11.mono H10.out.size)); clear hg11 H10
  go_wp2_with fail
  refine (S1.out _ H11.out).mono ?_
  rintro e w12 ⟨s1, rfl, hs1, hg12⟩
  have H12 := Lib.hid (H11.out.trans (hg12.mono H11.out.size)); have E1 := Lib.hid (bytes_of_owns hs1); clear hg12 H11 hs1
  go_wp2_with fail
  refine (S2.out _ H12.out).mono ?_
  rintro e w13 ⟨s2, rfl, hs2, hg13⟩
  have H13 := Lib.hid (H12.out.trans (hg13.mono H12.out.size)); have D13 := Lib.hid hg13; have O2 := Lib.hid hs2; have z12 := hg13.size; clear hg13 hs2
  go_wp2_with fail
  refine (S3.out _ H13.out).mono ?_
  rintro e w14 ⟨s3, rfl, hs3, hg14⟩
  have D14 := Lib.hid (D13.out.trans (hg14.mono z12)); have O3 := Lib.hid (owns_later O2.out hg14); have z13 := hg14.size
  obtain ⟨a3, c3, rfl, n1, n2, n3, n4⟩ := row_of_owns_any hs3
  have N3 := Lib.hid n3; have N4 := Lib.hid n4; clear hg14 H13 hs3 O2 n3 n4
  obtain ⟨i1, hj, hj0, hj1, hj2⟩ := info_parts byteInfo
  have l1 := shownL_len X sx.out
  have l2 := shownL_len Y sy.out
  have l3 := lx.out
  have l4 := ly.out
  go_wp2_with (at_builtin; go_loud (refine wpList_append_row_want (by first | rfl | simp [Region.wanted, yielded]) _ _ 33 rfl w12.heap.size 5 i1 _ 1 1 Try.underlying33 hj hj0 hj1 hj2 rfl (by decide) _ _ _ rfl O3.out a3 (shownL Y).length c3 (Lib.byteCells (shownL Y)) rfl (by rw [Lib.byteCells_length]; omega) N3.out N4.out n1 ?c2 ?c3 ?c4 ?c5 ?_))
  case c2 => intro u hu; simp only [Lib.byteCells, List.mem_map] at hu; obtain ⟨b, _, rfl⟩ := hu; rfl
  case c3 => unfold maxLen; omega
  case c4 => omega
  case c5 => omega
  intro s4 w15 ho4 hgr4
  have E4 : BytesAt w15 s4 (shownL X ++ shownL Y) := bytes_of_owns (ownsB_of ho4 (by rw [Lib.byteCells_append]))
  have b15 : Below w12.heap.size w14 w15 := (Below.refl _ _).grown hgr4 (by omega) (fun q hq => (O3.out.lt q hq).1)
  have H15 := Lib.hid (H12.out.trans ((D14.out.trans b15).mono H12.out.size))
  have G1 := Lib.hid (E1.out.later (D14.out.trans b15))
  have G4 := Lib.hid E4
  clear ho4 hgr4 E4 b15 E1 D14 D13 O3 N3 N4
  go_wp2_with fail
  refine (requal_any _ _ _ _ _ G1.out G4.out).mono ?_
  rintro e w16 ⟨rfl, rfl⟩
  go_wp2_with fail
  refine (C1.out _ H15.out).mono ?_
  rintro e w17 ⟨rfl, hg17⟩
  have H17 := Lib.hid (H15.out.trans (hg17.mono H15.out.size)); clear hg17 H15
  go_wp2_with fail
  go_ret
  exact ⟨rfl, H8.out.trans (H17.out.mono H8.out.size)⟩
end Go.Proofs.Ytffmkmhnhecmnaa
