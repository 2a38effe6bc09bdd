/- The document's Decode. -/
import Derived.Test.YtnajgpefmknmpaaDoorCodeI
namespace Go.Proofs.YtnajgpefmknmpaaDoor
open Go.RowKit
set_option linter.unusedVariables false
set_option maxRecDepth 100000 in
set_option maxHeartbeats 1000000 in
theorem rdec_bad (v : Value) (l : List UInt8) (p : Int) (w : World) (h : BytesAt w v l) (hl : l.length ≤ 100000) (hp : p < 0 ∨ (l.length : Int) < p) :
    Calls Tryd.prog 14 #[v, .int .i64 p] w fun e w' => e = .returned (decV (decI l p)) ∧ Below w.heap.size w w' := by
  rw [dec_arg hp]
  obtain ⟨a, cap, rfl, -⟩ := h
  rcases hp with hp | hp
  all_goals
    go_enter Tryd.func14, Tryd.ntmps14
    go_wp2_with fail
    all_goals exact bodyPost_ret (v := decV (⟨0, 0, 0⟩, 0, 1)) (by simp [results, Tryd.results14, go_sem, decV, insV]) rfl ⟨rfl, by repeat (first | with_reducible exact Below.refl _ _ | ((with_reducible refine Below.setCell ?_ ?_ _); rotate_left; focus (first | (simp; done) | (simp; omega) | omega)) | ((with_reducible refine Below.alloc ?_ ?_ _); rotate_left; focus (first | (simp; done) | (simp; omega) | omega)) | (with_reducible refine Below.drew ?_))⟩
set_option maxRecDepth 100000 in
set_option maxHeartbeats 1000000 in
theorem rdec_last (v : Value) (l : List UInt8) (w : World) (h : BytesAt w v l) (hl : l.length ≤ 100000) :
    Calls Tryd.prog 14 #[v, .int .i64 (l.length : Int)] w fun e w' => e = .returned (decV (decI l l.length)) ∧ Below w.heap.size w w' := by
  rw [dec_end]
  obtain ⟨a, cap, rfl, -⟩ := h
  go_enter Tryd.func14, Tryd.ntmps14
  go_wp2_with fail
  all_goals exact bodyPost_ret (v := decV (⟨0, 0, 0⟩, 0, 4)) (by simp [results, Tryd.results14, go_sem, decV, insV]) rfl ⟨rfl, by repeat (first | with_reducible exact Below.refl _ _ | ((with_reducible refine Below.setCell ?_ ?_ _); rotate_left; focus (first | (simp; done) | (simp; omega) | omega)) | ((with_reducible refine Below.alloc ?_ ?_ _); rotate_left; focus (first | (simp; done) | (simp; omega) | omega)) | (with_reducible refine Below.drew ?_))⟩
theorem aS_eq (f : Fm) : aS f = if f.sg then -(f.a : Int) else (f.a : Int) := rfl
set_option maxRecDepth 100000 in
set_option maxHeartbeats 2000000 in
theorem rdec_some (v : Value) (l : List UInt8) (k : Nat) (w : World) (h : BytesAt w v l) (hl : l.length ≤ 100000) (hk : k < l.length) :
    Calls Tryd.prog 14 #[v, .int .i64 (k : Int)] w fun e w' => e = .returned (decV (decI l k)) ∧ Below w.heap.size w w' := by
  have H := Lib.hid h
  obtain ⟨b, o, cap, rfl, h1, hcs⟩ := h.shape (by rintro rfl; simp at hk)
  have hcell : w.cell? ⟨b, o + k, none⟩ = some (.int .u8 ((l.getD k 0).toNat : Int)) := by
    rw [hcs k hk]; simp [Lib.byteCells, List.getElem?_eq_getElem hk]
  have hlt := lt_of_cell hcell
  have HD := Lib.hid (@dec_yes l k hk)
  have HS := Lib.hid (@dec_short l k hk)
  have HF := Lib.hid (@dec_form l k hk)
  have hnm := fm_name ((l.getD k 0).toNat : Int)
  obtain ⟨f1, f2, f3⟩ := fm_all ((l.getD k 0).toNat : Int)
  have hb := (l.getD k 0).toNat_lt
  clear hcs h
  generalize hcc : (l.getD k 0).toNat = c at *
  have HN := Lib.hid (name_any (c : Int))
  generalize hff : fmOf (c : Int) = f at *
  obtain ⟨fn, fa, fs, fb⟩ := f
  simp only at f1 f2 f3 HD HS hnm
  rw [aS_eq] at HN
  simp only at HN
  clear hcc hff
  generalize hn : l.length = n at *
  have he : ((k : Int) == (n : Int)) = false := by simp; omega
  have hd : decide (n < k) = false := by simp; omega
  have HZ := Lib.hid (show ∀ W, Calls Tryd.prog 23 #[.int .i64 (if fs then -(fa : Int) else (fa : Int))] W fun e w' => e = .returned (.int .i64 (fa : Int)) ∧ w' = W from fun W => (size_any _ W (by split <;> omega)).mono fun e w' h => by
    refine ⟨h.1.trans (ret_int ?_), h.2⟩
    split <;> split <;> omega)
  have HG := Lib.hid (show ∀ (v1 : Value) (l1 : List UInt8) (W : World), BytesAt W v1 l1 → l1.length = fa → Calls Tryd.prog 24 #[v1, .int .i64 (if fs then -(fa : Int) else (fa : Int))] W fun e w' => e = .returned (.int .i64 (getZ l1 fs)) ∧ w' = W from fun v1 l1 W h1 h2 => by
    have := rget_any v1 l1 fs W h1 (by omega) (fun h => f3 (by rw [h] at h2; exact h2.symm))
    rw [h2] at this
    exact this)
  generalize (if fs then -(fa : Int) else (fa : Int)) = z at *
  by_cases hc : c < 20
  · have hne : fn ≠ [] := fun e => (hnm.1 e) ⟨by omega, by omega⟩
    have hq : fn.isEmpty = false := by simpa using hne
    have HD1 := Lib.hid (HD.out hc); have HS1 := Lib.hid (HS.out hc)
    clear HD HS HF hne hnm
    by_cases hov : n < k + 1 + fa + fb
    · have ho' : decide ((n : Int) < (k : Int) + 1 + fa + fb) = true := by simp; omega
      go_enter Tryd.func14, Tryd.ntmps14
      go_wp2_with (first | (go_at_call 20; refine (HN.out _).mono ?_; rintro e w' ⟨rfl, rfl⟩) | (go_at_call 23; refine (HZ.out _).mono ?_; rintro e w' ⟨rfl, rfl⟩))
      exact bodyPost_ret (v := decV (⟨0, 0, 0⟩, 0, 4)) (by simp [results, Tryd.results14, go_sem, decV, insV]) rfl ⟨by rw [HS1.out hov], by repeat (first | with_reducible exact Below.refl _ _ | ((with_reducible refine Below.setCell ?_ ?_ _); rotate_left; focus (first | (simp; done) | (simp; omega) | omega)) | ((with_reducible refine Below.alloc ?_ ?_ _); rotate_left; focus (first | (simp; done) | (simp; omega) | omega)) | (with_reducible refine Below.drew ?_))⟩
    · have ho' : decide ((n : Int) < (k : Int) + 1 + fa + fb) = false := by simp; omega
      go_enter Tryd.func14, Tryd.ntmps14
      go_wp2_with (first | (go_at_call 20; refine (HN.out _).mono ?_; rintro e w' ⟨rfl, rfl⟩) | (go_at_call 23; refine (HZ.out _).mono ?_; rintro e w' ⟨rfl, rfl⟩))
      have g0 : Below w.heap.size w (w.alloc (.cells #[.int .i64 0, .int .i64 0, .int .i64 0] 26)) := (Below.refl _ _).alloc (Nat.le_refl _) _
      have q0 : (w.alloc (.cells #[.int .i64 0, .int .i64 0, .int .i64 0] 26)).heap[w.heap.size]? = some (.cells #[.int .i64 0, .int .i64 0, .int .i64 0] 26 (0, 0)) := heap_alloc_new w _
      generalize w.alloc (.cells #[.int .i64 0, .int .i64 0, .int .i64 0] 26) = w8 at *
      have G8 := Lib.hid g0
      have r0 := cell_of_row w8 _ 0 _ _ _ q0
      have r1 := cell_of_row w8 _ 1 _ _ _ q0
      have r2 := cell_of_row w8 _ 2 _ _ _ q0
      simp at r0 r1 r2
      have z0 : w8.frozen? ⟨w.heap.size, 0, none⟩ = false := by unfold World.frozen?; rw [q0]; rfl
      have z1 : w8.frozen? ⟨w.heap.size, 1, none⟩ = false := by unfold World.frozen?; rw [q0]; rfl
      have z2 : w8.frozen? ⟨w.heap.size, 2, none⟩ = false := by unfold World.frozen?; rw [q0]; rfl
      have y8 : w8.cell? ⟨b, o + k, none⟩ = some (.int .u8 (c : Int)) := (G8.out.cell (p := ⟨b, o + k, none⟩) hlt).trans hcell
      have HB8 := Lib.hid (H.out.later G8.out)
      clear q0 g0 hcell
      obtain ⟨v1, hv1, hsl1⟩ := HB8.out.part (k + 1) fa (by omega)
      obtain ⟨v2, hv2, hsl2⟩ := HB8.out.part (k + 1 + fa) fb (by omega)
      have e1 : ∀ W, (Instr.slice 29 (.slice (some ⟨b, o, none⟩) n cap) (some (.int .i64 ((k : Int) + 1))) (some (.int .i64 ((k : Int) + 1 + fa))) none).run Tryd.prog W = .ok v1 W := by exact_mod_cast hsl1
      have e2 : ∀ W, (Instr.slice 29 (.slice (some ⟨b, o, none⟩) n cap) (some (.int .i64 ((k : Int) + 1 + fa))) (some (.int .i64 ((k : Int) + 1 + fa + fb))) none).run Tryd.prog W = .ok v2 W := by exact_mod_cast hsl2
      have l1 : ((l.drop (k + 1)).take fa).length = fa := by rw [List.length_take, List.length_drop]; omega
      have l2 : ((l.drop (k + 1 + fa)).take fb).length = fb := by rw [List.length_take, List.length_drop]; omega
      have C1 := Lib.hid (show ∀ W, Below w8.heap.size w8 W → Calls Tryd.prog 24 #[v1, .int .i64 z] W fun e w' => e = .returned (.int .i64 (getZ ((l.drop (k + 1)).take fa) fs)) ∧ w' = W from fun W hW => HG.out v1 _ W (hv1.later hW) l1)
      have C2 := Lib.hid (show ∀ W, Below w8.heap.size w8 W → Calls Tryd.prog 24 #[v2, .int .i64 (fb : Int)] W fun e w' => e = .returned (.int .i64 (getZ ((l.drop (k + 1 + fa)).take fb) false)) ∧ w' = W from fun W hW => by
        have := rget_any v2 _ false W (hv2.later hW) (by omega) (fun h => rfl)
        rw [l2] at this
        exact this)
      have hl1 := Lib.hid l1; have hl2 := Lib.hid l2
      clear hsl1 hsl2 hv1 hv2 l1 l2
      have HD' := Lib.hid (HD1.out hov)
      clear HD1 HS1 HZ HG HN
      generalize getZ ((l.drop (k + 1)).take fa) fs = za at *
      generalize getZ ((l.drop (k + 1 + fa)).take fb) false = zb at *
      have wk : IntKind.i64.wrap ((k : Int) + 1) = (k : Int) + 1 := IntWalk.i64_in _ (by omega)
      have wb : IntKind.i64.wrap ((k : Int) + 1 + fa + fb) = (k : Int) + 1 + fa + fb := IntWalk.i64_in _ (by omega)
      have wc : IntKind.i64.wrap (c : Int) = (c : Int) := IntWalk.i64_in _ (by omega)
      have ne1 : b ≠ w.heap.size := by omega
      have ne3 : w.heap.size ≠ b := by omega
      go_region_held3 (fun w' => w'.cell? ⟨b, o + k, none⟩ = some (.int .u8 (c : Int)))
        (first | exact y8 | go_keep)
        (first | (go_at_call 24; with_reducible (refine (C1.out _ (by first | with_reducible exact Below.refl _ _ | with_reducible exact (Below.refl _ _).drew)).mono ?_); rintro e w9 ⟨rfl, rfl⟩) | (go_at_call 24; with_reducible (refine (C2.out _ (by first | with_reducible exact Below.refl _ _ | with_reducible exact (Below.refl _ _).drew)).mono ?_); rintro e w9 ⟨rfl, rfl⟩))
      all_goals (clear wk wb)
      all_goals (go_wp2_with fail)
      refine bodyPost_ret (v := decV (⟨c, za, zb⟩, (k : Int) + 1 + fa + fb, 0)) (by simp [results, Tryd.results14, go_sem, decV, insV, r0, r1, r2]) rfl ⟨by rw [HD'.out], ?_⟩
      repeat (first | with_reducible exact Below.refl _ _ | ((with_reducible refine Below.setCell ?_ ?_ _); rotate_left; focus (first | (simp; done) | (simp; omega) | omega)) | ((with_reducible refine Below.alloc ?_ ?_ _); rotate_left; focus (first | (simp; done) | (simp; omega) | omega)) | (with_reducible refine Below.drew ?_) | ((with_reducible refine Below.trans ?_ (Below.mono G8.out ?_)); rotate_left; focus (first | (simp; done) | (simp; omega) | omega)))
  · have hne : fn = [] := hnm.2 (fun h => hc (by omega))
    subst hne
    have HF' := Lib.hid (HF.out (by omega))
    clear hc hnm HD HS HF HG HZ
    go_enter Tryd.func14, Tryd.ntmps14
    go_wp2_with (first | (go_at_call 20; refine (HN.out _).mono ?_; rintro e w' ⟨rfl, rfl⟩))
    exact bodyPost_ret (v := decV (⟨0, 0, 0⟩, 0, 3)) (by simp [results, Tryd.results14, go_sem, decV, insV]) rfl ⟨by rw [HF'.out], by repeat (first | with_reducible exact Below.refl _ _ | ((with_reducible refine Below.setCell ?_ ?_ _); rotate_left; focus (first | (simp; done) | (simp; omega) | omega)) | ((with_reducible refine Below.alloc ?_ ?_ _); rotate_left; focus (first | (simp; done) | (simp; omega) | omega)) | (with_reducible refine Below.drew ?_))⟩
theorem rdec_any (v : Value) (l : List UInt8) (p : Int) (w : World) (h : BytesAt w v l) (hl : l.length ≤ 100000) :
    Calls Tryd.prog 14 #[v, .int .i64 p] w fun e w' => e = .returned (decV (decI l p)) ∧ Below w.heap.size w w' := by
  by_cases h1 : p < 0 ∨ (l.length : Int) < p
  · exact rdec_bad v l p w h hl h1
  · by_cases h2 : p = l.length
    · subst h2; exact rdec_last v l w h hl
    · obtain ⟨k, rfl⟩ := Int.eq_ofNat_of_zero_le (show 0 ≤ p by omega)
      exact rdec_some v l k w h hl (by omega)
end Go.Proofs.YtnajgpefmknmpaaDoor
