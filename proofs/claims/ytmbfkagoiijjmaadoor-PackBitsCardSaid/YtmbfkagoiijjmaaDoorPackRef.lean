/- Sets of numbers as the document has them: a truth for each. -/
import Derived.Test.YtmbfkagoiijjmaaDoorPackSame
namespace Go.Proofs.YtmbfkagoiijjmaaDoor
open Go.RowKit
set_option linter.unusedVariables false
theorem boolInfo : (Tryd.prog.info? 4).map (fun i => (i.zero, i.size, i.bytes)) = some (some (.bool false), 1, 1) := by kernel_rfl
/-- the document's set, as a value -/
def refV (g N : Nat) : Value := .agg #[.slice (some ⟨g, 0, none⟩) N N]
def RefAt (w : World) (g N : Nat) (S : Nat → Bool) : Prop := w.rowIs g 4 N (fun j => .bool (S j)) ∧ (∀ j, N ≤ j → S j = false) ∧ N ≤ 16777216
theorem RefAt.later {w w' : World} {g N : Nat} {S : Nat → Bool} (h : RefAt w g N S) (hb : Below w.heap.size w w') : RefAt w' g N S :=
  ⟨h.1.of_block (hb.block g h.1.lt), h.2⟩
theorem RefAt.keeps {w w' : World} {g N : Nat} {S : Nat → Bool} {T : TypeId} (h : RefAt w g N S) (hk : KeepsBut T w w') (hT : 4 ≠ T) : RefAt w' g N S := ⟨hk.row h.1 hT, h.2⟩
theorem BitsAt.keeps {w w' : World} {B b n : Nat} {S : Nat → Bool} {T : TypeId} (h : BitsAt w B b n S) (hk : KeepsBut T w w') (h1 : 75 ≠ T) (h2 : 35 ≠ T) : BitsAt w' B b n S := by
  obtain ⟨g', cap, m, ws, f, k1, k2, k3, k4, k5, k6, k7, k8, k9⟩ := h
  exact ⟨g', cap, m, ws, f, k1, k2, k3, k4, by rw [hk b _ _ _ k5 h1]; exact k5, k6, k7, hk.row k8 h2, k9⟩
theorem setS_high {N : Nat} {S : Nat → Bool} (h : ∀ j, N ≤ j → S j = false) (i : Int) (on : Bool) : ∀ j, N ≤ j → setS N S i on j = false := by
  intro j hj
  unfold setS
  rw [if_neg (by omega)]
  exact h j hj
theorem rowS_set {w : World} {g N j : Nat} {S : Nat → Bool} {on : Bool} (hr : w.rowIs g 4 N (fun i => .bool (S i))) (h : j < N) : (w.setCell ⟨g, j, none⟩ (.bool on)).rowIs g 4 N (fun i => .bool (setS N S (j : Int) on i)) :=
  (hr.set j (.bool on)).congr fun i hi => by
    unfold setS; rw [Int.toNat_natCast]
    by_cases h1 : i = j
    · rw [if_pos h1, if_pos ⟨by omega, by omega, h1⟩]
    · rw [if_neg h1, if_neg (fun h => h1 h.2.2)]
set_option maxRecDepth 100000 in
theorem rnew_any (n : Int) (hn : n ≤ 1000000) (w : World) :
    Calls Tryd.prog 33 #[.int .i64 n] w fun e w' => ∃ g, e = .returned (refV g n.toNat) ∧ w.heap.size ≤ g ∧ RefAt w' g n.toNat (fun _ => false) ∧ Below w.heap.size w w' := by
  obtain ⟨N, hN⟩ : ∃ N : Nat, n.toNat = N := ⟨_, rfl⟩
  rw [hN]
  have hmk : ∀ W, (Instr.makeSlice 57 (.int .i64 (N : Int)) (.int .i64 (N : Int))).run Tryd.prog W = .ok (.slice (some ⟨W.heap.size, 0, none⟩) N N) (W.alloc (.cells (madeCells #[.bool false] N) 4)) :=
    fun W => run_make_row' (P := Tryd.prog) 57 4 (.bool false) 1 Tryd.underlying57 boolInfo rfl .i64 .i64 N (by omega) (by omega) W
  by_cases h0 : n < 0
  · obtain rfl : N = 0 := by omega
    have hm0 : ∀ W, (Instr.makeSlice 57 (.int .i64 0) (.int .i64 0)).run Tryd.prog W = .ok (.slice (some ⟨W.heap.size, 0, none⟩) 0 0) (W.alloc (.cells (madeCells #[.bool false] 0) 4)) := hmk
    clear hmk
    go_enter Tryd.func33, Tryd.ntmps33
    go_wp2_with fail
    refine bodyPost_ret (v := refV (w.heap.size + 1) _) (by simp [results, refV, Tryd.results33, go_sem]) rfl ⟨_, rfl, by omega, ⟨?_, fun _ _ => rfl, by omega⟩, ?_⟩
    · have := World.rowIs_made (w.alloc (.cells #[.slice (some ⟨w.heap.size + 1, 0, none⟩) 0 0] 65)) (.bool false) 0 4
      rw [show (w.alloc (.cells #[.slice (some ⟨w.heap.size + 1, 0, none⟩) 0 0] 65)).heap.size = w.heap.size + 1 from by simp] at this
      exact this
    · repeat (first | with_reducible exact Below.refl _ _ | ((with_reducible refine Below.setCell ?_ ?_ _); rotate_left; focus (first | (simp; done) | (simp; omega) | omega)) | ((with_reducible refine Below.alloc ?_ ?_ _); rotate_left; focus (first | (simp; done) | (simp; omega) | omega)) | (with_reducible refine Below.drew ?_))
  · obtain rfl : n = N := by omega
    go_enter Tryd.func33, Tryd.ntmps33
    go_wp2_with fail
    refine bodyPost_ret (v := refV (w.heap.size + 1) _) (by simp [results, refV, Tryd.results33, go_sem]) rfl ⟨_, rfl, by omega, ⟨?_, fun _ _ => rfl, by omega⟩, ?_⟩
    · have := World.rowIs_made (w.alloc (.cells #[.slice (some ⟨w.heap.size + 1, 0, none⟩) N N] 65)) (.bool false) N 4
      rw [show (w.alloc (.cells #[.slice (some ⟨w.heap.size + 1, 0, none⟩) N N] 65)).heap.size = w.heap.size + 1 from by simp] at this
      exact this
    · repeat (first | with_reducible exact Below.refl _ _ | ((with_reducible refine Below.setCell ?_ ?_ _); rotate_left; focus (first | (simp; done) | (simp; omega) | omega)) | ((with_reducible refine Below.alloc ?_ ?_ _); rotate_left; focus (first | (simp; done) | (simp; omega) | omega)) | (with_reducible refine Below.drew ?_))
set_option maxRecDepth 100000 in
theorem rhas_any (g N : Nat) (S : Nat → Bool) (i : Int) (w : World) (h : RefAt w g N S) :
    Calls Tryd.prog 37 #[refV g N, .int .i64 i] w fun e w' => e = .returned (.bool (decide (0 ≤ i) && S i.toNat)) ∧ Below w.heap.size w w' := by
  obtain ⟨hr, hh, hN⟩ := h
  have hlg := hr.lt
  unfold refV
  by_cases hin : 0 ≤ i ∧ i < N
  · obtain ⟨k, rfl⟩ := Int.eq_ofNat_of_zero_le hin.1
    have hk : k < N := by omega
    have hc := hr.cell hk
    have he : (decide (0 ≤ (k : Int)) && S (k : Int).toNat) = S k := by simp
    rw [he]
    clear hr hh he
    go_enter Tryd.func37, Tryd.ntmps37
    go_wp2_with fail
    all_goals (try (exfalso; go_light; omega))
    all_goals go_ret
    all_goals refine ⟨rfl, ?_⟩
    all_goals (repeat (first | with_reducible exact Below.refl _ _ | ((with_reducible refine Below.setCell ?_ ?_ _); rotate_left; focus (first | (simp; done) | (simp; omega) | omega)) | ((with_reducible refine Below.alloc ?_ ?_ _); rotate_left; focus (first | (simp; done) | (simp; omega) | omega)) | (with_reducible refine Below.drew ?_)))
  · have he : (decide (0 ≤ i) && S i.toNat) = false := by
      by_cases h0 : 0 ≤ i
      · rw [hh _ (by omega)]; simp
      · simp [h0]
    rw [he]
    have hin' : 0 ≤ i → ¬ i < (N : Int) := by omega
    clear hr hh he hin
    go_enter Tryd.func37, Tryd.ntmps37
    go_wp2_with fail
    all_goals (try (exfalso; go_light; omega))
    all_goals go_ret
    all_goals refine ⟨rfl, ?_⟩
    all_goals (repeat (first | with_reducible exact Below.refl _ _ | ((with_reducible refine Below.setCell ?_ ?_ _); rotate_left; focus (first | (simp; done) | (simp; omega) | omega)) | ((with_reducible refine Below.alloc ?_ ?_ _); rotate_left; focus (first | (simp; done) | (simp; omega) | omega)) | (with_reducible refine Below.drew ?_)))
set_option maxRecDepth 100000 in
theorem rset_any (B g N : Nat) (S : Nat → Bool) (i : Int) (on : Bool) (w : World) (h : RefAt w g N S) (hB : B ≤ g) (hBw : B ≤ w.heap.size) :
    Calls Tryd.prog 35 #[refV g N, .int .i64 i, .bool on] w fun e w' => e = .returned (.bool (setB N S i on)) ∧ RefAt w' g N (setS N S i on) ∧ Below B w w' ∧ KeepsBut 4 w w' := by
  have H := Lib.hid h
  obtain ⟨hr, hh, hN⟩ := h
  have hlg := hr.lt
  unfold refV
  have HS := Lib.hid (setS_high hh i on)
  by_cases hin : 0 ≤ i ∧ i < N
  · obtain ⟨k, rfl⟩ := Int.eq_ofNat_of_zero_le hin.1
    have hk : k < N := by omega
    have hc := hr.cell hk
    have hf := hr.frozen k
    by_cases hs : S k = on
    · have he : setB N S (k : Int) on = false := by unfold setB; rw [Int.toNat_natCast, hs]; simp
      have hst : setS N S (k : Int) on = S := setS_same (by rw [Int.toNat_natCast]; exact hs)
      rw [he, hst]
      rw [hs] at hc
      have q1 : (on == on) = true := beq_self_eq_true _
      clear hr hh he hst hs
      go_enter Tryd.func35, Tryd.ntmps35
      go_wp2_with fail
      all_goals (try (exfalso; go_light; omega))
      all_goals go_ret
      all_goals exact ⟨rfl, H.out.later ((Below.refl _ w).alloc (Nat.le_refl _) _), (Below.refl _ w).alloc hBw _, KeepsBut.alloc _ _ _⟩
    · have he : setB N S (k : Int) on = true := by unfold setB; rw [Int.toNat_natCast]; simp [hk]; exact hs
      rw [he]
      have q1 : (S k == on) = false := by rw [beq_eq_false_iff_ne]; exact hs
      generalize S k = sk at *
      have HR := Lib.hid (rowS_set (on := on) hr hk)
      have HT := Lib.hid (show ∃ c fr, w.heap[g]? = some (.cells c 4 fr) from by obtain ⟨c, hc, -⟩ := hr; exact ⟨c, _, hc⟩)
      clear hr hh he hs
      go_enter Tryd.func35, Tryd.ntmps35
      go_wp2_with fail
      all_goals (try (exfalso; go_light; omega))
      all_goals go_ret
      all_goals exact ⟨rfl, ⟨HR.out.alloc _, HS.out, hN⟩, ((Below.refl _ w).setCell hB _).alloc (by simpa using hBw) _, ((KeepsBut.refl _ w).setCell HT.out).trans (KeepsBut.alloc _ _ _)⟩
  · have he : setB N S i on = false := by unfold setB; rw [decide_eq_false hin]; rfl
    rw [he, setS_out hin]
    have hin' : 0 ≤ i → ¬ i < (N : Int) := by omega
    clear hr hh he hin
    go_enter Tryd.func35, Tryd.ntmps35
    go_wp2_with fail
    all_goals (try (exfalso; go_light; omega))
    all_goals go_ret
    all_goals exact ⟨rfl, H.out.later ((Below.refl _ w).alloc (Nat.le_refl _) _), (Below.refl _ w).alloc hBw _, KeepsBut.alloc _ _ _⟩
set_option maxRecDepth 100000 in
theorem rnext_any (g N : Nat) (S : Nat → Bool) (i : Int) (w : World) (h : RefAt w g N S) :
    Calls Tryd.prog 38 #[refV g N, .int .i64 i] w fun e w' => ∃ r, e = .returned (.int .i64 r) ∧ IsNext N S i r ∧ Below w.heap.size w w' := by
  obtain ⟨hr, hh, hN⟩ := h
  have hlg := hr.lt
  unfold refV
  have HR := Lib.hid hr
  clear hr hh
  obtain ⟨k0, hk0⟩ : ∃ k : Nat, (k : Int) = max i 0 := ⟨(max i 0).toNat, by omega⟩
  have HI := Lib.hid (show ∀ r, IsNext N S (k0 : Int) r → IsNext N S i r from fun r hr => by
    rcases hr with ⟨e, hr⟩ | ⟨q, e, r1, r2, r3, r4⟩
    · exact Or.inl ⟨e, fun j hj => hr j (by omega)⟩
    · exact Or.inr ⟨q, e, r1, by omega, r3, fun j hj => r4 j (by omega)⟩)
  by_cases hneg : i < 0
  · obtain rfl : k0 = 0 := by omega
    clear hk0
    go_enter Tryd.func38, Tryd.ntmps38
    go_wp2_with fail
    go_loopg [1] (N + 1) (fun gg k wr => ∃ q : Nat, gg = N + 1 - q ∧ 0 ≤ q ∧ k = .int .i64 q ∧ (∀ j, 0 ≤ j → j < q → j < N → S j = false) ∧ wr = w.alloc (.cells #[.slice (some ⟨g, 0, none⟩) N N] 65))
    case atStart => exact ⟨0, by first | rfl | omega, by omega, rfl, fun j h1 h2 => by omega, rfl⟩
    case round =>
      obtain ⟨q, hgk, hq, rfl, hz, rfl⟩ := hrel
      have HK := Lib.hid hgk; have HZ := Lib.hid hz; clear hgk hz
      by_cases hlt : q < N
      · have hc := HR.out.cell hlt
        cases hsq : S q with
        | true =>
          have hN := Lib.hid (HI.out (q : Int) (Or.inr ⟨q, rfl, hlt, by omega, hsq, fun j h1 h2 => HZ.out j (by omega) h2 (by omega)⟩))
          rw [hsq] at hc
          clear hsq
          go_wp2_with fail
          go_ret
          refine ⟨_, rfl, hN.out, ?_⟩
          repeat (first | with_reducible exact Below.refl _ _ | ((with_reducible refine Below.setCell ?_ ?_ _); rotate_left; focus (first | (simp; done) | (simp; omega) | omega)) | ((with_reducible refine Below.alloc ?_ ?_ _); rotate_left; focus (first | (simp; done) | (simp; omega) | omega)) | (with_reducible refine Below.drew ?_))
        | false =>
          have HZ' := Lib.hid (show ∀ j, 0 ≤ j → j < q + 1 → j < N → S j = false from fun j h1 h2 h3 => by
            by_cases hj : j = q
            · subst hj; exact hsq
            · exact HZ.out j h1 (by omega) h3)
          rw [hsq] at hc
          clear hsq
          go_wp2_with fail
          go_roundg (N + 1 - (q + 1))
          case measure => rw [HK.out]; omega
          case rel => exact ⟨q + 1, rfl, by omega, by go_num, HZ'.out, rfl⟩
      · have hN := Lib.hid (HI.out (-1) (Or.inl ⟨rfl, fun j h1 h2 => HZ.out j (by omega) (by omega) h2⟩))
        go_wp2_with fail
        go_ret
        refine ⟨_, rfl, hN.out, ?_⟩
        repeat (first | with_reducible exact Below.refl _ _ | ((with_reducible refine Below.setCell ?_ ?_ _); rotate_left; focus (first | (simp; done) | (simp; omega) | omega)) | ((with_reducible refine Below.alloc ?_ ?_ _); rotate_left; focus (first | (simp; done) | (simp; omega) | omega)) | (with_reducible refine Below.drew ?_))
  · obtain rfl : i = (k0 : Int) := by omega
    clear hk0 hneg
    go_enter Tryd.func38, Tryd.ntmps38
    go_wp2_with fail
    go_loopg [1] (N + 1 - k0) (fun gg k wr => ∃ q : Nat, gg = N + 1 - q ∧ k0 ≤ q ∧ k = .int .i64 q ∧ (∀ j, k0 ≤ j → j < q → j < N → S j = false) ∧ wr = w.alloc (.cells #[.slice (some ⟨g, 0, none⟩) N N] 65))
    case atStart => exact ⟨k0, by first | rfl | omega, by omega, rfl, fun j h1 h2 => by omega, rfl⟩
    case round =>
      obtain ⟨q, hgk, hq, rfl, hz, rfl⟩ := hrel
      have HK := Lib.hid hgk; have HZ := Lib.hid hz; clear hgk hz
      by_cases hlt : q < N
      · have hc := HR.out.cell hlt
        cases hsq : S q with
        | true =>
          have hN := Lib.hid (HI.out (q : Int) (Or.inr ⟨q, rfl, hlt, by omega, hsq, fun j h1 h2 => HZ.out j (by omega) h2 (by omega)⟩))
          rw [hsq] at hc
          clear hsq
          go_wp2_with fail
          go_ret
          refine ⟨_, rfl, hN.out, ?_⟩
          repeat (first | with_reducible exact Below.refl _ _ | ((with_reducible refine Below.setCell ?_ ?_ _); rotate_left; focus (first | (simp; done) | (simp; omega) | omega)) | ((with_reducible refine Below.alloc ?_ ?_ _); rotate_left; focus (first | (simp; done) | (simp; omega) | omega)) | (with_reducible refine Below.drew ?_))
        | false =>
          have HZ' := Lib.hid (show ∀ j, k0 ≤ j → j < q + 1 → j < N → S j = false from fun j h1 h2 h3 => by
            by_cases hj : j = q
            · subst hj; exact hsq
            · exact HZ.out j h1 (by omega) h3)
          rw [hsq] at hc
          clear hsq
          go_wp2_with fail
          go_roundg (N + 1 - (q + 1))
          case measure => rw [HK.out]; omega
          case rel => exact ⟨q + 1, rfl, by omega, by go_num, HZ'.out, rfl⟩
      · have hN := Lib.hid (HI.out (-1) (Or.inl ⟨rfl, fun j h1 h2 => HZ.out j (by omega) (by omega) h2⟩))
        go_wp2_with fail
        go_ret
        refine ⟨_, rfl, hN.out, ?_⟩
        repeat (first | with_reducible exact Below.refl _ _ | ((with_reducible refine Below.setCell ?_ ?_ _); rotate_left; focus (first | (simp; done) | (simp; omega) | omega)) | ((with_reducible refine Below.alloc ?_ ?_ _); rotate_left; focus (first | (simp; done) | (simp; omega) | omega)) | (with_reducible refine Below.drew ?_))
set_option maxRecDepth 100000 in
theorem rbelow_any (g N : Nat) (S : Nat → Bool) (i : Int) (w : World) (h : RefAt w g N S) :
    Calls Tryd.prog 39 #[refV g N, .int .i64 i] w fun e w' => e = .returned (.int .i64 (cnt S (clipN N i) : Int)) ∧ Below w.heap.size w w' := by
  obtain ⟨hr, hh, hN⟩ := h
  have hlg := hr.lt
  unfold refV
  have HR := Lib.hid hr
  have hk1 : ((clipN N i : Nat) : Int) = max 0 (min i N) := by unfold clipN; omega
  clear hr hh
  generalize clipN N i = K at *
  have hKN : K ≤ N := by omega
  have hw0 := Lib.hid ((Below.refl _ w).alloc (Nat.le_refl _) (.cells #[.slice (some ⟨g, 0, none⟩) N N] 65))
  go_enter Tryd.func39, Tryd.ntmps39
  go_wp2_with fail
  go_loopg [5, 6] (N - 0) (fun gg c k wr => ∃ q : Nat, gg = N - q ∧ q ≤ K ∧ k = .int .i64 q ∧ c = .int .i64 (cnt S q : Int) ∧ wr = w.alloc (.cells #[.slice (some ⟨g, 0, none⟩) N N] 65))
  case atStart => exact ⟨0, rfl, by omega, rfl, rfl, rfl⟩
  case round =>
    obtain ⟨q, hgk, hq, rfl, rfl, rfl⟩ := hrel
    have HK := Lib.hid hgk; clear hgk
    have hcq := cnt_le S q
    by_cases hlt : q < K
    · have hqN : q < N := by omega
      have hqi : (q : Int) < i := by omega
      have hc := HR.out.cell hqN
      have hs : cnt S (q + 1) = cnt S q + (S q).toNat := rfl
      cases hsq : S q with
      | true =>
        rw [hsq] at hc hs
        have HS := Lib.hid hs; clear hs hsq
        generalize cnt S q = c0 at *
        go_wp2_with fail
        all_goals (try (exfalso; go_light; omega))
        go_roundg (N - (q + 1))
        case measure => rw [HK.out]; omega
        case rel => exact ⟨q + 1, rfl, by omega, by go_num, by rw [HS.out]; go_num, rfl⟩
      | false =>
        rw [hsq] at hc hs
        have HS := Lib.hid hs; clear hs hsq
        generalize cnt S q = c0 at *
        go_wp2_with fail
        all_goals (try (exfalso; go_light; omega))
        go_roundg (N - (q + 1))
        case measure => rw [HK.out]; omega
        case rel => exact ⟨q + 1, rfl, by omega, by go_num, by rw [HS.out]; rfl, rfl⟩
    · obtain rfl : q = K := by omega
      have hstop : (q : Int) < N → ¬ (q : Int) < i := by omega
      go_wp2_with fail
      all_goals (try (exfalso; go_light; omega))
      all_goals go_ret
      all_goals exact ⟨rfl, hw0.out⟩
end Go.Proofs.YtmbfkagoiijjmaaDoor
