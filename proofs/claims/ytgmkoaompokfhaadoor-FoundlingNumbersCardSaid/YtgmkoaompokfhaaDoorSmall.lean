/- Numbers in a word. -/
import Derived.Test.YtgmkoaompokfhaaDoorPackWf
import Derived.Test.YtgmkoaompokfhaaDoorBits
namespace Go.Proofs.YtgmkoaompokfhaaDoor
open Go.RowKit
set_option linter.unusedVariables false
theorem cellO {w : World} {g : Nat} {cs : Array Value} {t : TypeId} {fr : Nat × Nat} (h : w.heap[g]? = some (.cells cs t fr)) (i : Nat) : w.cell? ⟨g, i, none⟩ = cs[i]? := by simp [World.cell?, h]
/-- a number's word -/
def wordN (n : Int) : Nat := ((2 * n + 1) % 18446744073709551616).toNat
theorem wordN_lt (n : Int) : wordN n < 18446744073709551616 := by unfold wordN; omega
theorem wrapU (x : Int) : IntKind.u64.wrap x = x % 18446744073709551616 := by
  simp [IntKind.wrap, IntKind.bits, IntKind.signed]
theorem or1 (a : Int) (h0 : 0 ≤ a) (h1 : a < 18446744073709551616) (h2 : a % 2 = 0) : bits BinOp.or IntKind.u64 a 1 = a + 1 := by
  obtain ⟨b, rfl⟩ : ∃ b, a = b * 2 := ⟨a / 2, by omega⟩
  rw [u64_or _ 1 h0 h1 (by omega) (by omega)]
  have e : (b * 2).toNat = b.toNat * 2 := by omega
  rw [e, show (1 : Int).toNat = 1 from rfl, nat_join 1 (b.toNat * 2) 1 (by omega) (by omega)]
  omega
theorem word_or (n : Int) : bits BinOp.or IntKind.u64 (IntKind.u64.wrap (IntKind.u64.wrap n * 2)) 1 = (wordN n : Int) := by
  rw [wrapU, wrapU, or1 _ (by omega) (by omega) (by omega)]
  unfold wordN
  omega
theorem word_odd (n : Int) : (wordN n : Int) % 2 = 1 := by unfold wordN; omega
theorem word_back (n : Int) (h0 : -4611686018427387904 ≤ n) (h1 : n ≤ 4611686018427387903) : wrap64 (wordN n : Int) / 2 = n := by
  unfold wrap64 wordN
  omega
theorem is_w (a : Int) (h0 : 0 ≤ a) (h1 : a < 18446744073709551616) (w : World) : Calls Tryd.prog 32 #[.int .u64 a] w fun e w' => e = .returned (.bool (decide (a % 2 = 1))) ∧ w' = w := by
  have h := Lib.hid (and1 a h0 h1)
  go_enter Tryd.func32, Tryd.ntmps32
  go_wp2
  go_ret
  exact ⟨ret_bool (by rw [h.out]; rfl), rfl⟩
theorem is_word (n : Int) (w : World) : Calls Tryd.prog 32 #[.int .u64 (wordN n : Int)] w fun e w' => e = .returned (.bool true) ∧ w' = w := by
  have h := is_w (wordN n : Int) (by omega) (by have := wordN_lt n; omega) w
  rw [decide_eq_true (word_odd n)] at h
  exact h
set_option maxRecDepth 100000 in
theorem of_yes (n : Int) (h0 : -4611686018427387904 ≤ n) (h1 : n ≤ 4611686018427387903) (w : World) : Calls Tryd.prog 4 #[.int .i64 n] w fun e w' => e = .returned (.tuple #[.int .u64 (wordN n : Int), .int .i64 0]) ∧ w' = w := by
  have HW := Lib.hid (word_or n)
  go_enter Tryd.func4, Tryd.ntmps4
  go_wp2_with fail
  exact bodyPost_ret (v := .tuple #[.int .u64 (bits BinOp.or IntKind.u64 (IntKind.u64.wrap (IntKind.u64.wrap n * 2)) 1), .int .i64 0]) (by simp [results, Tryd.results4, go_sem]) rfl ⟨by rw [HW.out], rfl⟩
set_option maxRecDepth 100000 in
theorem of_no (n : Int) (h : n < -4611686018427387904 ∨ 4611686018427387903 < n) (w : World) : Calls Tryd.prog 4 #[.int .i64 n] w fun e w' => e = .returned (.tuple #[.int .u64 0, .int .i64 9]) ∧ w' = w := by
  go_enter Tryd.func4, Tryd.ntmps4
  by_cases h0 : n < -4611686018427387904
  · go_wp2_with fail
    exact bodyPost_ret (v := .tuple #[.int .u64 0, .int .i64 9]) (by simp [results, Tryd.results4, go_sem]) rfl ⟨rfl, rfl⟩
  · have h1 : 4611686018427387903 < n := by omega
    go_wp2_with fail
    exact bodyPost_ret (v := .tuple #[.int .u64 0, .int .i64 9]) (by simp [results, Tryd.results4, go_sem]) rfl ⟨rfl, rfl⟩
set_option maxRecDepth 100000 in
theorem value_yes (n : Int) (h0 : -4611686018427387904 ≤ n) (h1 : n ≤ 4611686018427387903) (w : World) : Calls Tryd.prog 17 #[.int .u64 (wordN n : Int)] w fun e w' => e = .returned (.tuple #[.int .i64 n, .int .i64 0]) ∧ w' = w := by
  have HW := Lib.hid (word_back n h0 h1)
  go_enter Tryd.func17, Tryd.ntmps17
  go_wp2_with fail
  refine (is_word n w).mono ?_
  rintro e w1 ⟨rfl, rfl⟩
  go_wp2_with fail
  exact bodyPost_ret (v := .tuple #[.int .i64 (wrap64 (wordN n : Int) / 2), .int .i64 0]) (by simp [results, Tryd.results17, go_sem]) rfl ⟨by rw [HW.out], rfl⟩
set_option maxRecDepth 100000 in
theorem rvalue_yes (n : Int) (h0 : -4611686018427387904 ≤ n) (h1 : n ≤ 4611686018427387903) (w : World) : Calls Tryd.prog 11 #[.int .u64 (wordN n : Int)] w fun e w' => e = .returned (.int .i64 n) ∧ Below w.heap.size w w' := by
  have hw := wordN_lt n
  by_cases hn : 0 ≤ n
  · have e : (wordN n : Int) = 2 * n + 1 := by unfold wordN; omega
    rw [e]
    clear e hw
    go_enter Tryd.func11, Tryd.ntmps11
    go_wp2_with fail
    all_goals try (exfalso; go_light; omega)
    exact bodyPost_ret (v := .int .i64 ((2 * n + 1) / 2)) (by simp [results, Tryd.results11, go_sem]) rfl ⟨by rw [show (2 * n + 1) / 2 = n by omega], Below.refl _ _⟩
  · have e : (wordN n : Int) = 2 * n + 1 + 18446744073709551616 := by unfold wordN; omega
    rw [e]
    clear e hw
    go_enter Tryd.func11, Tryd.ntmps11
    go_wp2_with fail
    exact bodyPost_ret (v := .int .i64 ((2 * n + 1 + 18446744073709551616) / 2 - 4611686018427387904 + -4611686018427387904)) (by simp [results, Tryd.results11, go_sem]) rfl ⟨by rw [show (2 * n + 1 + 18446744073709551616) / 2 - 4611686018427387904 + -4611686018427387904 = n by omega], Below.refl _ _⟩
def isNum (n : Int) : Prop := -4611686018427387904 ≤ n ∧ n ≤ 4611686018427387903
instance (n : Int) : Decidable (isNum n) := by unfold isNum; infer_instance
set_option maxRecDepth 100000 in
theorem rnumber_any (n : Int) (w : World) : Calls Tryd.prog 29 #[.int .i64 n] w fun e w' => e = .returned (.bool (decide (isNum n))) ∧ w' = w := by
  by_cases h0 : -4611686018427387904 ≤ n
  · by_cases h1 : n ≤ 4611686018427387903
    · have HD := Lib.hid (decide_eq_true (show isNum n from ⟨h0, h1⟩))
      go_enter Tryd.func29, Tryd.ntmps29
      go_wp2_with fail
      all_goals try (exfalso; go_light; omega)
      exact bodyPost_ret (v := .bool true) (by simp [results, Tryd.results29, go_sem]; try omega) rfl ⟨by rw [HD.out], rfl⟩
    · have HD := Lib.hid (decide_eq_false (show ¬ isNum n from fun h => h1 h.2))
      go_enter Tryd.func29, Tryd.ntmps29
      go_wp2_with fail
      all_goals try (exfalso; go_light; omega)
      exact bodyPost_ret (v := .bool false) (by simp [results, Tryd.results29, go_sem]; try omega) rfl ⟨by rw [HD.out], rfl⟩
  · have HD := Lib.hid (decide_eq_false (show ¬ isNum n from fun h => h0 h.1))
    go_enter Tryd.func29, Tryd.ntmps29
    go_wp2_with fail
    all_goals try (exfalso; go_light; omega)
    exact bodyPost_ret (v := .bool false) (by simp [results, Tryd.results29, go_sem]; try omega) rfl ⟨by rw [HD.out], rfl⟩
set_option maxRecDepth 100000 in
theorem rdo_yes (x y : Int) (hx : isNum x) (hy : isNum y) (h : isNum (x + y)) (w : World) :
    Calls Tryd.prog 10 #[.int .i64 0, .int .i64 x, .int .i64 y] w fun e w' => e = .returned (.tuple #[.int .i64 (x + y), .int .i64 0]) ∧ Below w.heap.size w w' := by
  have RN := rnumber_any (x + y) w
  rw [decide_eq_true h] at RN
  have RNH := Lib.hid RN
  obtain ⟨x0, x1⟩ := hx; obtain ⟨y0, y1⟩ := hy
  clear RN h
  go_enter Tryd.func10, Tryd.ntmps10
  go_wp2_with fail
  refine RNH.out.mono ?_
  rintro e w1 ⟨rfl, rfl⟩
  go_wp2_with fail
  exact bodyPost_ret (v := .tuple #[.int .i64 (x + y), .int .i64 0]) (by simp [results, Tryd.results10, go_sem]) rfl ⟨rfl, Below.refl _ _⟩
set_option maxRecDepth 100000 in
theorem rdo_no (x y : Int) (hx : isNum x) (hy : isNum y) (h : ¬ isNum (x + y)) (w : World) :
    Calls Tryd.prog 10 #[.int .i64 0, .int .i64 x, .int .i64 y] w fun e w' => e = .returned (.tuple #[.int .i64 0, .int .i64 9]) ∧ Below w.heap.size w w' := by
  have RN := rnumber_any (x + y) w
  rw [decide_eq_false h] at RN
  have RNH := Lib.hid RN
  obtain ⟨x0, x1⟩ := hx; obtain ⟨y0, y1⟩ := hy
  clear RN h
  go_enter Tryd.func10, Tryd.ntmps10
  go_wp2_with fail
  refine RNH.out.mono ?_
  rintro e w1 ⟨rfl, rfl⟩
  go_wp2_with fail
  exact bodyPost_ret (v := .tuple #[.int .i64 0, .int .i64 9]) (by simp [results, Tryd.results10, go_sem]) rfl ⟨rfl, Below.refl _ _⟩
set_option maxRecDepth 100000 in
theorem plain_any (k : Fn) (w : World) : Calls Tryd.prog 24 #[.func k #[] #[]] w fun e w' => e = .returned (.func (.func 44) #[] #[.pointer (some ⟨w.heap.size, 0, none⟩)]) ∧ w' = w.alloc (.cells #[.func k #[] #[]] 62) := by
  go_enter Tryd.func24, Tryd.ntmps24
  go_wp2_with fail
  exact bodyPost_ret (v := .func (.func 44) #[] #[.pointer (some ⟨w.heap.size, 0, none⟩)]) (by simp [results, Tryd.results24, go_sem]) rfl ⟨rfl, rfl⟩
set_option maxRecDepth 100000 in
theorem plain1_add (x y : Int) (B : Nat) (hx : isNum x) (hy : isNum y) (w : World) (h : w.cell? ⟨B, 0, none⟩ = some (.func (.func 25) #[] #[])) :
    Calls Tryd.prog 44 #[.int .i64 x, .int .i64 y, .pointer (some ⟨B, 0, none⟩)] w fun e w' => e = .returned (.tuple #[.int .i64 (x + y), .int .i64 0]) ∧ w' = w := by
  obtain ⟨x0, x1⟩ := hx; obtain ⟨y0, y1⟩ := hy
  have AD : Calls Tryd.prog 25 #[.int .i64 x, .int .i64 y] w fun e w' => e = .returned (.int .i64 (x + y)) ∧ w' = w := by
    go_enter Tryd.func25, Tryd.ntmps25
    go_wp2_with fail
    exact bodyPost_ret (v := .int .i64 (x + y)) (by simp [results, Tryd.results25, go_sem]) rfl ⟨rfl, rfl⟩
  have ADH := Lib.hid AD
  clear AD
  go_enter Tryd.func44, Tryd.ntmps44
  go_wp2_with fail
  refine ADH.out.mono ?_
  rintro e w1 ⟨rfl, rfl⟩
  go_wp2_with fail
  exact bodyPost_ret (v := .tuple #[.int .i64 (x + y), .int .i64 0]) (by simp [results, Tryd.results44, go_sem]) rfl ⟨rfl, rfl⟩
set_option maxRecDepth 100000 in
theorem do_add (x y : Int) (B : Nat) (hx : isNum x) (hy : isNum y) (w : World) (h : w.cell? ⟨B, 0, none⟩ = some (.func (.func 25) #[] #[])) :
    Calls Tryd.prog 23 #[.int .u64 (wordN x : Int), .int .u64 (wordN y : Int), .func (.func 44) #[] #[.pointer (some ⟨B, 0, none⟩)]] w fun e w' => e = .returned (if isNum (x + y) then .tuple #[.int .u64 (wordN (x + y) : Int), .int .i64 0] else .tuple #[.int .u64 0, .int .i64 9]) ∧ w' = w := by
  have PL := Lib.hid (plain1_add x y B hx hy w h)
  have bx := word_back x hx.1 hx.2
  have by' := word_back y hy.1 hy.2
  have hf : Calls Tryd.prog 4 #[.int .i64 (x + y)] w fun e w' => e = .returned (if isNum (x + y) then .tuple #[.int .u64 (wordN (x + y) : Int), .int .i64 0] else .tuple #[.int .u64 0, .int .i64 9]) ∧ w' = w := by
    by_cases hn : isNum (x + y)
    · rw [if_pos hn]; exact of_yes _ hn.1 hn.2 w
    · rw [if_neg hn]; exact of_no _ (by unfold isNum at hn; omega) w
  have OF := Lib.hid hf
  obtain ⟨r0, r1, hr⟩ : ∃ r0 r1 : Int, (if isNum (x + y) then Value.tuple #[.int .u64 (wordN (x + y) : Int), .int .i64 0] else .tuple #[.int .u64 0, .int .i64 9]) = .tuple #[.int .u64 r0, .int .i64 r1] := by
    split
    · exact ⟨_, _, rfl⟩
    · exact ⟨_, _, rfl⟩
  rw [hr] at OF ⊢
  clear hf hr h hx hy
  go_enter Tryd.func23, Tryd.ntmps23
  go_wp2_with fail
  refine (is_word x w).mono ?_
  rintro e w1 ⟨rfl, rfl⟩
  go_wp2_with fail
  refine (is_word y w1).mono ?_
  rintro e w2 ⟨rfl, rfl⟩
  go_wp2_with fail
  refine PL.out.mono ?_
  rintro e w3 ⟨rfl, rfl⟩
  go_wp2_with fail
  refine OF.out.mono ?_
  rintro e w4 ⟨rfl, rfl⟩
  go_wp2_with fail
  exact bodyPost_ret (v := .tuple #[.int .u64 r0, .int .i64 r1]) (by simp [results, Tryd.results23, go_sem]) rfl ⟨rfl, rfl⟩
set_option maxRecDepth 100000 in
/-- small.Add, of two numbers' words -/
theorem addw_any (x y : Int) (hx : isNum x) (hy : isNum y) (w : World) :
    Calls Tryd.prog 9 #[.int .u64 (wordN x : Int), .int .u64 (wordN y : Int)] w fun e w' => e = .returned (if isNum (x + y) then .tuple #[.int .u64 (wordN (x + y) : Int), .int .i64 0] else .tuple #[.int .u64 0, .int .i64 9]) ∧ Below w.heap.size w w' := by
  have DO := Lib.hid (fun W (h : W.cell? ⟨w.heap.size, 0, none⟩ = some (.func (.func 25) #[] #[])) => do_add x y w.heap.size hx hy W h)
  obtain ⟨r0, r1, hr⟩ : ∃ r0 r1 : Int, (if isNum (x + y) then Value.tuple #[.int .u64 (wordN (x + y) : Int), .int .i64 0] else .tuple #[.int .u64 0, .int .i64 9]) = .tuple #[.int .u64 r0, .int .i64 r1] := by
    split
    · exact ⟨_, _, rfl⟩
    · exact ⟨_, _, rfl⟩
  rw [hr] at DO ⊢
  clear hr hx hy
  go_enter Tryd.func9, Tryd.ntmps9
  go_wp2_with fail
  refine (plain_any (.func 25) w).mono ?_
  rintro e w1 ⟨rfl, hw1⟩
  have hc := cellO (show w1.heap[w.heap.size]? = _ by rw [hw1]; exact heap_alloc_new w _) 0
  simp at hc
  have hb : Below w.heap.size w w1 := by rw [hw1]; exact (Below.refl _ w).alloc (Nat.le_refl _) _
  have HB := Lib.hid hb
  have DO1 := Lib.hid (DO.out w1 hc)
  clear hw1 hb hc
  go_wp2_with fail
  refine DO1.out.mono ?_
  rintro e w2 ⟨rfl, rfl⟩
  go_wp2_with fail
  exact bodyPost_ret (v := .tuple #[.int .u64 r0, .int .i64 r1]) (by simp [results, Tryd.results9, go_sem]) rfl ⟨rfl, HB.out⟩
end Go.Proofs.YtgmkoaompokfhaaDoor
