/- Sets of bits: another one like it; are they alike. Sets of bits: are they alike. -/
import Derived.Test.YtffbhocgjpdjpaaDoorPackMore
import Derived.Deep.RegionWith
namespace Go.Proofs.YtffbhocgjpdjpaaDoor
open Go.RowKit
theorem row_of_owns_nn {w : World} {B n : Nat} {e : TypeId} {v : Value} {xs : List Value} (h : w.ownsRow B e 1 v n xs) (hne : v ≠ .slice none 0 0) :
    ∃ g cap f, v = .slice (some ⟨g, 0, none⟩) n cap ∧ B ≤ g ∧ n ≤ cap ∧ cap ≤ maxLen ∧ w.rowIs g e cap f ∧ ∀ i u, xs[i]? = some u → f i = u := by
  obtain ⟨hl, h⟩ := h
  rcases h with ⟨hv, -⟩ | ⟨g, cap, cur, hv, hB, hg, hn, hm, hs, ht⟩
  · exact absurd hv hne
  · refine ⟨g, cap, fun i => cur[i]?.getD .nilIface, hv, hB, hn, hm, ⟨cur, hg, by omega, fun i hi => ?_⟩, fun i u hu => ?_⟩
    · have : i < cur.size := by omega
      simp [this]
    · have hi : i < xs.length := (List.getElem?_eq_some_iff.1 hu).1
      have : cur[i]? = xs[i]? := by rw [← ht, List.getElem?_take, if_pos (by omega)]; simp
      show (cur[i]?).getD .nilIface = u
      rw [this, hu]; rfl
theorem add_plain (g j : Nat) : (⟨g, 0, none⟩ : Addr).add j = ⟨g, j, none⟩ := by
  unfold Addr.add
  split
  · rename_i h0; subst h0; rfl
  · simp
set_option maxRecDepth 100000 in
theorem cloneU_any (g n cap : Nat) (xs : List Int) (w : World) (hx : xs.length = n) (hn : n ≤ 1000000) (hc : ∀ j u, (xs.map (Value.int .u64))[j]? = some u → w.cell? ⟨g, j, none⟩ = some u) :
    Calls Tryd.prog 79 #[.slice (some ⟨g, 0, none⟩) n cap] w fun e w' => ∃ g' c' f, e = .returned (.slice (some ⟨g', 0, none⟩) n c') ∧ w.heap.size ≤ g' ∧ n ≤ c' ∧ c' ≤ maxLen ∧ w'.rowIs g' 48 c' f ∧ (∀ i u, (xs.map (Value.int .u64))[i]? = some u → f i = u) ∧ Below w.heap.size w w' := by
  obtain ⟨i0, hi, hz0, hz1, hz2⟩ := info_parts wordInfo
  have ho : (w.alloc (.cells #[] 48)).ownsRow w.heap.size 48 1 (.slice (some ⟨w.heap.size, 0, none⟩) 0 0) 0 [] := World.ownsRow_lit w #[] 0 (Nat.le_refl _) (by decide) rfl
  have h4 : ∀ j u, (xs.map (Value.int .u64))[j]? = some u → (w.alloc (.cells #[] 48)).cell? ((⟨g, 0, none⟩ : Addr).add j) = some u := by
    intro j u hj
    have h := hc j u hj
    have hlt := lt_of_cell h
    rw [add_plain]
    rw [World.cell?_alloc_past _ g j hlt]
    exact h
  have H4 := Lib.hid h4
  clear hc h4
  have q46 : ∀ (w : World) (a : Option Addr) (n c n' c' : Nat), (binOp .eql 23 (.slice a n c) (.slice none n' c')).run Tryd.prog w = .ok (.bool a.isNone) w := fun w a n c n' c' => Lib.run_eql_slice_nil w _ _ a n c n' c' Tryd.underlying23
  go_enter Tryd.func79, Tryd.ntmps79
  go_wp2_with (at_builtin; refine wpList_append_own _ rfl _ _ 23 rfl w.heap.size 48 i0 (.int .u64 0) 1 8 Tryd.underlying23 hi hz0 hz1 hz2 rfl (by decide) _ _ _ rfl ho ⟨g, 0, none⟩ n cap (xs.map (Value.int .u64)) rfl (by rw [List.length_map]; omega) H4.out ?c2 ?c3 ?c4 ?c5 ?_)
  case c2 => intro u hu; simp only [List.mem_map] at hu; obtain ⟨b, _, rfl⟩ := hu; rfl
  case c3 => unfold maxLen; omega
  case c4 => omega
  case c5 => simp
  intro v' w1 hown' hgrow hnn
  have ho1 : w1.ownsRow w.heap.size 48 1 v' n (xs.map (Value.int .u64)) := by simpa using hown'
  have hne : v' ≠ .slice none 0 0 := fun h => hnn h
  have hb1 := ((Below.refl w.heap.size w).alloc (Nat.le_refl _) (.cells #[] 48)).grown hgrow (by simp) (fun q hq => (ho.lt q hq).1)
  have HO := Lib.hid ho1; have HB := Lib.hid hb1; have HN := Lib.hid hne; clear hown' hgrow ho1 hb1 hnn hne
  go_wp2_with fail
  go_ret
  obtain ⟨g', c', f, rfl, h1, h2, h3, h4, h5⟩ := row_of_owns_nn HO.out HN.out
  exact ⟨g', c', f, rfl, h1, h2, h3, h4, h5, HB.out⟩
set_option maxRecDepth 100000 in
theorem clone_bits (B b n : Nat) (S : Nat → Bool) (w : World) (h : BitsAt w B b n S) :
    Calls Tryd.prog 40 #[.pointer (some ⟨b, 0, none⟩)] w fun e w' => ∃ b', e = .returned (.pointer (some ⟨b', 0, none⟩)) ∧ BitsAt w' w.heap.size b' n S ∧ Below w.heap.size w w' := by
  obtain ⟨g, cap, m, ws, f, h1, h2, h3, h4, h5, h6, h7, h8, h9, h10, h11⟩ := h
  have hlb : b < w.heap.size := (Array.getElem?_eq_some_iff.1 h5).1
  have hc0 : w.cell? ⟨b, 0, none⟩ = some (.int .i64 (n : Int)) := by simp [World.cell?, h5]
  have hc1 : w.cell? ⟨b, 1, none⟩ = some (.slice (some ⟨g, 0, none⟩) ((n + 63) / 64) cap) := by simp [World.cell?, h5]
  have K := Lib.hid (fun W (hW : Below w.heap.size w W) => cloneU_any g ((n + 63) / 64) cap ((List.range ((n + 63) / 64)).map fun i => (ws i : Int)) W (by simp) (by omega) (fun j u hj => by
    have hj' : j < (n + 63) / 64 := by simpa using (List.getElem?_eq_some_iff.1 hj).1
    have hcj : w.cell? ⟨g, j, none⟩ = some (.int .u64 (ws j : Int)) := by rw [h8.cell (by omega), (h10 j hj').1]
    have hWj := (hW.cell (p := ⟨g, j, none⟩) h8.lt).trans hcj
    rw [hWj]
    simpa [hj'] using hj))
  have H10 := Lib.hid (fun i hi => (h10 i hi).2)
  have H11 := Lib.hid h11
  clear h5 h8 h10 h11
  go_enter Tryd.func40, Tryd.ntmps40
  go_wp2_with fail
  go_region_with (go_at_call 79; go_loud (refine (K.out _ ?_).mono ?_; exact (Below.refl _ _).drew; rintro e w1 ⟨g', c', f', rfl, hq1, hq2, hq3, hq4, hq5, hg⟩; have hq0 : w1.cell? ⟨b, 0, none⟩ = some (.int .i64 (n : Int)) := (hg.cell (p := ⟨b, 0, none⟩) hlb).trans hc0; have Q1 := Lib.hid hq1; have Q2 := Lib.hid hq2; have Q3 := Lib.hid hq3; have Q4 := Lib.hid hq4; have Q5 := Lib.hid hq5; have HG := Lib.hid hg; clear hq1 hq2 hq3 hq4 hq5 hg))
  all_goals (
    go_wp2_with fail
    go_ret
    refine ⟨w1.heap.size, rfl, ⟨g', c', c', ws, f', HG.out.size, Q1.out, ?_, h4, heap_alloc_new w1 _, Q2.out, Q3.out, Q4.out.alloc _, Q2.out, fun i hi => ⟨?_, H10.out i hi⟩, H11.out⟩, ?_⟩
    · have := Q4.out.lt; omega
    · exact Q5.out i _ (by simp [hi])
    · exact (Below.refl _ w).drew.trans (HG.out.alloc HG.out.size _))
end Go.Proofs.YtffbhocgjpdjpaaDoor
namespace Go.Proofs.YtffbhocgjpdjpaaDoor
open Go.RowKit
theorem NumsAt.get {w : World} {k : IntKind} {v : Value} {l : List Int} (h : NumsAt w k v l) : ∃ a cap, v = .slice a l.length cap ∧ l.length ≤ cap ∧ cap ≤ maxLen ∧ (a = none → cap = 0) ∧
  ∀ i (hi : i < l.length), ∃ b o, a = some ⟨b, o, none⟩ ∧ b < w.heap.size ∧ w.cell? ⟨b, o + i, none⟩ = some (.int k l[i]) ∧ (Lit.int k l[i]).wf = true := by
  obtain ⟨a, cap, hv, h1, h2, h3, h4⟩ := h
  refine ⟨a, cap, hv, h1, h2, h3, fun i hi => ?_⟩
  obtain ⟨b, o, ha, hc, hw⟩ := h4 i hi
  exact ⟨b, o, ha, lt_of_cell hc, hc, hw⟩
theorem take_all {l m : List Int} (hlen : l.length = m.length) (h : ∀ i (h1 : i < l.length) (h2 : i < m.length), l[i] = m[i]) : l = m := List.ext_getElem hlen h
set_option maxRecDepth 100000 in
theorem eqU_any (v u : Value) (l m : List Int) (w : World) (hv : NumsAt w .u64 v l) (hu : NumsAt w .u64 u m) :
    Calls Tryd.prog 86 #[v, u] w fun e w' => e = .returned (.bool (l == m)) ∧ Below w.heap.size w w' := by
  obtain ⟨a, ca, rfl, v1, v2, -, v3⟩ := hv.get
  obtain ⟨b, cb, rfl, u1, u2, -, u3⟩ := hu.get
  have V := Lib.hid v3; have U := Lib.hid u3; clear v3 u3 hv hu
  unfold maxLen at v2 u2
  by_cases hlen : l.length = m.length
  · have HE := Lib.hid (take_all hlen)
    have hq : (((l.length : Int)) == (m.length : Int)) = true := by rw [beq_iff_eq]; omega
    have HQ := Lib.hid hlen
    go_enter Tryd.func86, Tryd.ntmps86
    go_wp2_with fail
    go_loopg [13] l.length (fun g i wr => ∃ k : Nat, g = l.length - k ∧ k ≤ l.length ∧ i = .int .i64 k ∧ Below w.heap.size w wr ∧ ∀ i (h1 : i < l.length) (h2 : i < m.length), i < k → l[i] = m[i])
    case atStart => exact ⟨0, rfl, by omega, rfl, Below.refl _ _, fun i _ _ h => by omega⟩
    case round =>
      obtain ⟨k, hgk, hk, rfl, hb, hs⟩ := hrel
      have HK := Lib.hid hgk; have HB := Lib.hid hb; have HS := Lib.hid hs; clear hgk hs
      have hwl := hb.size
      by_cases hlt : k < l.length
      · have hlm : k < m.length := by omega
        obtain ⟨vb, vo, hva, hvl, hvc, -⟩ := V.out k hlt
        obtain ⟨ub, uo, hua, hul, huc, -⟩ := U.out k hlm
        have hvc' : wr.cell? ⟨vb, vo + k, none⟩ = _ := (hb.cell (p := ⟨vb, vo + k, none⟩) hvl).trans hvc
        have huc' : wr.cell? ⟨ub, uo + k, none⟩ = _ := (hb.cell (p := ⟨ub, uo + k, none⟩) hul).trans huc
        subst hva hua
        have hvl' : vb < wr.heap.size := by omega
        have hul' : ub < wr.heap.size := by omega
        clear hvc huc hb
        by_cases he : l[k] = m[k]
        · have HS' := Lib.hid (show ∀ i (h1 : i < l.length) (h2 : i < m.length), i < k + 1 → l[i] = m[i] from fun i h1 h2 h3 => by
            by_cases hik : i = k
            · subst hik; exact he
            · exact HS.out i h1 h2 (by omega))
          rw [he] at hvc'
          generalize m[k] = c at *
          have q5 : (c != c) = false := bne_self_eq_false _
          have q6 : (c == c) = true := beq_self_eq_true _
          clear he
          go_wp2_with fail
          (refine wp_region_later (by kernel_rfl) (by kernel_rfl) ?_; (repeat (go_big_quiet_step ((fail)))); refine wpQuiet_nil ?_; intro w4 hw4; have hg := later_elim hw4; clear hw4)
          have HB4 := Lib.hid (HB.out.trans (hg.mono hwl)); clear hg
          go_wp2_with fail
          go_roundg (l.length - (k + 1))
          case measure => rw [HK.out]; omega
          case rel => exact ⟨k + 1, rfl, by omega, by go_num, HB4.out, HS'.out⟩
        · have hne : (l == m) = false := by
            rw [beq_eq_false_iff_ne]; intro h; apply he; subst h; rfl
          have HNE := Lib.hid hne
          clear hne
          generalize m[k] = c at *
          generalize l[k] = d at *
          have q5 : (d != c) = true := by simp [he]
          have q6 : (d == c) = false := by simp [he]
          go_wp2_with fail
          (refine wp_region_later (by kernel_rfl) (by kernel_rfl) ?_; (repeat (go_big_quiet_step ((fail)))); refine wpQuiet_nil ?_; intro w4 hw4; have hg := later_elim hw4; clear hw4)
          have HB4 := Lib.hid (HB.out.trans (hg.mono hwl)); clear hg
          go_wp2_with fail
          go_ret
          exact ⟨ret_bool HNE.out.symm, HB4.out⟩
      · obtain rfl : k = l.length := by omega
        have he : (l == m) = true := by rw [beq_iff_eq]; exact HE.out fun i h1 h2 => HS.out i h1 h2 h1
        have HE' := Lib.hid he
        clear he hb
        go_wp2_with fail
        go_ret
        exact ⟨ret_bool HE'.out.symm, HB.out⟩
  · have hne : (l == m) = false := by rw [beq_eq_false_iff_ne]; intro h; exact hlen (by rw [h])
    rw [hne]
    clear hne
    have hq : ¬ (l.length : Int) = (m.length : Int) := by omega
    go_enter Tryd.func86, Tryd.ntmps86
    go_wp2_with fail
    go_ret
    exact ⟨rfl, Below.refl _ _⟩
theorem word_ext {x y : Nat} (hx : x < 18446744073709551616) (hy : y < 18446744073709551616) (h : ∀ j, j < 64 → x.testBit j = y.testBit j) : x = y := by
  apply Nat.eq_of_testBit_eq
  intro j
  by_cases hj : j < 64
  · exact h j hj
  · have p : (18446744073709551616 : Nat) ≤ 2 ^ j := Nat.pow_le_pow_right (n := 2) (by omega) (show 64 ≤ j by omega)
    rw [Nat.testBit_lt_two_pow (by omega), Nat.testBit_lt_two_pow (by omega)]
theorem words_same {n : Nat} {S T : Nat → Bool} {ws vs : Nat → Nat}
    (hS : ∀ i, i < (n + 63) / 64 → ws i < 18446744073709551616 ∧ ∀ j, j < 64 → (ws i).testBit j = S (64 * i + j)) (hT : ∀ i, i < (n + 63) / 64 → vs i < 18446744073709551616 ∧ ∀ j, j < 64 → (vs i).testBit j = T (64 * i + j))
    (h1 : ∀ k, n ≤ k → S k = false) (h2 : ∀ k, n ≤ k → T k = false) :
    (((List.range ((n + 63) / 64)).map fun i => (ws i : Int)) == ((List.range ((n + 63) / 64)).map fun i => (vs i : Int))) = true ↔ S = T := by
  rw [beq_iff_eq]
  constructor
  · intro h
    funext k
    by_cases hk : k < n
    · have hq : k / 64 < (n + 63) / 64 := by omega
      have := congrArg (·[k / 64]?) h
      simp [hq] at this
      have e1 := (hS (k / 64) hq).2 (k % 64) (by omega)
      have e2 := (hT (k / 64) hq).2 (k % 64) (by omega)
      rw [Nat.div_add_mod] at e1 e2
      rw [← e1, ← e2]
      congr 1
      omega
    · rw [h1 k (by omega), h2 k (by omega)]
  · intro h
    subst h
    apply List.map_congr_left
    intro i hi
    have hi' : i < (n + 63) / 64 := by simpa using hi
    have : ws i = vs i := word_ext (hS i hi').1 (hT i hi').1 fun j hj => by rw [(hS i hi').2 j hj, (hT i hi').2 j hj]
    rw [this]
set_option maxRecDepth 100000 in
theorem same_any (B b n C c m : Nat) (S T : Nat → Bool) (w : World) (hs : BitsAt w B b n S) (ht : BitsAt w C c m T) :
    Calls Tryd.prog 51 #[.pointer (some ⟨b, 0, none⟩), .pointer (some ⟨c, 0, none⟩)] w fun e w' => ∃ r, e = .returned (.bool r) ∧ (r = true ↔ n = m ∧ S = T) ∧ Below w.heap.size w w' := by
  obtain ⟨g, cap, p, ws, f, s1, s2, s3, s4, s5, s6, s7, s8, s9, s10, s11⟩ := hs
  obtain ⟨g', cap', p', vs, f', t1, t2, t3, t4, t5, t6, t7, t8, t9, t10, t11⟩ := ht
  have hlb : b < w.heap.size := (Array.getElem?_eq_some_iff.1 s5).1
  have hlc : c < w.heap.size := (Array.getElem?_eq_some_iff.1 t5).1
  have hb0 : w.cell? ⟨b, 0, none⟩ = some (.int .i64 (n : Int)) := by simp [World.cell?, s5]
  have hb1 : w.cell? ⟨b, 1, none⟩ = some (.slice (some ⟨g, 0, none⟩) ((n + 63) / 64) cap) := by simp [World.cell?, s5]
  have hc0 : w.cell? ⟨c, 0, none⟩ = some (.int .i64 (m : Int)) := by simp [World.cell?, t5]
  have hc1 : w.cell? ⟨c, 1, none⟩ = some (.slice (some ⟨g', 0, none⟩) ((m + 63) / 64) cap') := by simp [World.cell?, t5]
  by_cases hnm : n = m
  · subst hnm
    have hw := words_same (fun i hi => (s10 i hi).2) (fun i hi => (t10 i hi).2) s11 t11
    have E := Lib.hid (fun W (hW : Below w.heap.size w W) => eqU_any _ _ _ _ W ((bits_nums s6 s7 s8 s9 (fun i hi => ⟨(s10 i hi).1, (s10 i hi).2.1⟩)).later hW) ((bits_nums t6 t7 t8 t9 (fun i hi => ⟨(t10 i hi).1, (t10 i hi).2.1⟩)).later hW))
    have q1 : ((n : Int) == (n : Int)) = true := beq_self_eq_true _
    generalize (((List.range ((n + 63) / 64)).map fun i => (ws i : Int)) == ((List.range ((n + 63) / 64)).map fun i => (vs i : Int))) = r at *
    have HW := Lib.hid hw
    clear s5 s8 s10 s11 t5 t8 t10 t11 hw
    go_enter Tryd.func51, Tryd.ntmps51
    go_wp2_with fail
    (refine wp_region_later (by kernel_rfl) (by kernel_rfl) ?_; (repeat (go_big_quiet_step (((go_at_call 86; with_reducible exact calls_later_if E.out))))); refine wpQuiet_nil ?_; intro w4 hw4; have hg := later_elim hw4; clear hw4)
    have HG := Lib.hid hg; clear hg
    go_wp2_with fail
    go_ret
    exact ⟨r, rfl, ⟨fun h => ⟨trivial, HW.out.1 h⟩, fun h => HW.out.2 h.2⟩, HG.out⟩
  · have q1 : ((n : Int) == (m : Int)) = false := by rw [beq_eq_false_iff_ne]; omega
    clear s5 s8 s10 s11 t5 t8 t10 t11
    go_enter Tryd.func51, Tryd.ntmps51
    go_wp2_with fail
    (refine wp_region_later (by kernel_rfl) (by kernel_rfl) ?_; (repeat (go_big_quiet_step ((fail)))); refine wpQuiet_nil ?_; intro w4 hw4; have hg := later_elim hw4; clear hw4)
    have HG := Lib.hid hg; clear hg
    go_wp2_with fail
    go_ret
    exact ⟨false, rfl, by simp [hnm], HG.out⟩
end Go.Proofs.YtffbhocgjpdjpaaDoor
