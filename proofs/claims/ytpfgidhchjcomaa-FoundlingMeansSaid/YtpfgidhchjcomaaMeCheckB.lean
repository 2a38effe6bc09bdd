/- Is it a method? Is it a method: the answer of Check. -/
import Derived.Test.YtpfgidhchjcomaaMeSized
namespace Go.Proofs.Ytpfgidhchjcomaa
open Go.RowKit
set_option linter.unusedVariables false
def mthV (nm : ByteArray) (pv tv : Value) (pr : Int) (bv : Value) (at_ : Int) : Value := .agg #[.string nm, pv, tv, .int .i64 pr, bv, .int .i64 at_]
def sizedM (d : Nat) (l : List Nd) : Int :=
  let a := szW d l 15
  let b := if 40 < dM d l then min a 10 else a
  if b = 15 then 0 else b
set_option maxRecDepth 100000 in
theorem walkT_any (p : Nat) (x : Nat → Prop) (hx : ¬ x p) (d : Nat) (nm : ByteArray) (pv tv : Value) (pr : Int) (v : Value) (at_ : Int) (l : List Nd) (a : Int) (w : World) (h : NodesX x d w v l) (hp : w.cell? ⟨p, 0, none⟩ = some (.int .i64 a)) (hf : w.frozen? ⟨p, 0, none⟩ = false) :
    Calls Try.prog 39 #[.agg #[.string nm, pv, tv, .int .i64 pr, v, .int .i64 at_], .func (.func 40) #[] #[.pointer (some ⟨p, 0, none⟩)]] w fun e w' => e = .returned (.bool true) ∧ SzP p w w' (szW d l a) := by
  have hlp := lt_of_cell hp
  have HBA := Lib.hid (fun o => (Below.refl w.heap.size w).alloc (Nat.le_refl _) o)
  have WA := Lib.hid (fun o => walk_any p x hx d v l a (w.alloc o) (h.later (HBA.out o)) (((HBA.out o).cell (p := ⟨p, 0, none⟩) hlp).trans hp) (((HBA.out o).frozen (p := ⟨p, 0, none⟩) hlp).trans hf))
  clear h hx
  generalize szW d l a = r at *
  go_enter Try.func39, Try.ntmps39
  go_wp2_with fail
  refine (WA.out _).mono ?_
  rintro e w1 ⟨rfl, hz⟩
  have HZ := Lib.hid (show SzP p w w1 r from ⟨(Ex.of_below (HBA.out _)).trans hz.1, hz.2⟩)
  clear hz
  go_wp2_with fail
  go_ret
  exact ⟨rfl, HZ.out⟩
set_option maxRecDepth 100000 in
theorem depthT_any (x : Nat → Prop) (d : Nat) (nm : ByteArray) (pv tv : Value) (pr : Int) (v : Value) (at_ : Int) (l : List Nd) (w : World) (hd : d < 1000) (h : NodesX x d w v l) :
    Calls Try.prog 42 #[.agg #[.string nm, pv, tv, .int .i64 pr, v, .int .i64 at_]] w fun e w' => e = .returned (.int .i64 (dM d l)) ∧ Below w.heap.size w w' := by
  have DA := Lib.hid (fun W (hb : Below w.heap.size w W) => depth_any x d v l W hd (h.later hb))
  clear h
  generalize dM d l = r at *
  go_enter Try.func42, Try.ntmps42
  go_wp2_with fail
  refine (DA.out _ ((Below.refl _ _).alloc (Nat.le_refl _) _)).mono ?_
  rintro e w1 ⟨rfl, hb⟩
  have HB := Lib.hid (show Below w.heap.size w w1 from ((Below.refl _ _).alloc (Nat.le_refl _) _).trans (hb.mono (by simp)))
  clear hb
  go_wp2_with fail
  go_ret
  exact ⟨rfl, HB.out⟩
set_option maxRecDepth 100000 in
set_option maxHeartbeats 4000000 in
theorem sized_any (x : Nat → Prop) (d : Nat) (nm : ByteArray) (pv tv : Value) (pr : Int) (v : Value) (at_ : Int) (l : List Nd) (w : World) (hd : d < 1000) (h : NodesX x d w v l) :
    Calls Try.prog 26 #[.agg #[.string nm, pv, tv, .int .i64 pr, v, .int .i64 at_]] w fun e w' => e = .returned (.int .i64 (sizedM d l)) ∧ Below w.heap.size w w' := by
  have WA := Lib.hid (fun p W (hb : Below w.heap.size w W) (hp1 : w.heap.size ≤ p) (hp : W.cell? ⟨p, 0, none⟩ = some (.int .i64 15)) hf => walkT_any p (fun k => k < w.heap.size) (by omega) d nm pv tv pr v at_ l 15 W ((h.turn (fun b hb _ => hb)).later hb) hp hf)
  have DA := Lib.hid (fun W (hb : Below w.heap.size w W) => depthT_any x d nm pv tv pr v at_ l W hd (h.later hb))
  have HS := Lib.hid (show sizedM d l = (if (if 40 < dM d l then min (szW d l 15) 10 else szW d l 15) = 15 then 0 else (if 40 < dM d l then min (szW d l 15) 10 else szW d l 15)) from rfl)
  rw [HS.out]
  clear HS h
  generalize szW d l 15 = s at *
  generalize dM d l = q at *
  have hmf : ∀ (fn : Fn) (first cap : Array Value) (w : World), (Instr.makeFunc fn first cap).run Try.prog w = .ok (.func fn first cap) w := fun _ _ _ _ => rfl
  by_cases hq : 40 < q
  · rw [if_pos hq]
    by_cases h15 : min s 10 = 15
    · exact absurd h15 (by omega)
    · rw [if_neg h15]
      have e15 : (min s 10 == 15) = false := by simpa using h15
      clear h15
      go_enter Try.func26, Try.ntmps26
      go_wp2_with fail
      refine (WA.out (w.heap.size + 1) _ ?_ ?_ ?_ ?_).mono ?_
      · exact ((Below.refl _ _).alloc (Nat.le_refl _) _).alloc (by simp) _
      · omega
      · simp
      · simp
      rintro e w1 ⟨rfl, h1⟩
      have hs1 : w.heap.size + 2 ≤ w1.heap.size := by have := h1.1.size; simp at this; omega
      have k0 : w1.cell? ⟨w.heap.size, 0, none⟩ = some (.string nm) := (h1.1.cell (by simp <;> omega) (by omega)).trans (by simp)
      have k1 : w1.cell? ⟨w.heap.size, 1, none⟩ = some pv := (h1.1.cell (by simp <;> omega) (by omega)).trans (by simp)
      have k2 : w1.cell? ⟨w.heap.size, 2, none⟩ = some tv := (h1.1.cell (by simp <;> omega) (by omega)).trans (by simp)
      have k3 : w1.cell? ⟨w.heap.size, 3, none⟩ = some (.int .i64 pr) := (h1.1.cell (by simp <;> omega) (by omega)).trans (by simp)
      have k4 : w1.cell? ⟨w.heap.size, 4, none⟩ = some v := (h1.1.cell (by simp <;> omega) (by omega)).trans (by simp)
      have k5 : w1.cell? ⟨w.heap.size, 5, none⟩ = some (.int .i64 at_) := (h1.1.cell (by simp <;> omega) (by omega)).trans (by simp)
      have HB := Lib.hid (show Below w.heap.size w w1 from Below.trans (((Below.refl _ _).alloc (Nat.le_refl _) _).alloc (by simp) _) (h1.1.below (fun k hk => by omega) (by simp <;> omega)))
      have p1 := h1.2.1
      have f1 := h1.2.2
      clear h1
      go_wp2_with fail
      refine (DA.out _ HB.out).mono ?_
      rintro e w2 ⟨rfl, h2⟩
      have hs2 := h2.size
      have p2 : w2.cell? ⟨w.heap.size + 1, 0, none⟩ = some (.int .i64 s) := (h2.cell (p := ⟨w.heap.size + 1, 0, none⟩) (by simp; omega)).trans p1
      have f2 : w2.frozen? ⟨w.heap.size + 1, 0, none⟩ = false := (h2.frozen (p := ⟨w.heap.size + 1, 0, none⟩) (by simp; omega)).trans f1
      have HB2 := Lib.hid (HB.out.trans (h2.mono HB.out.size))
      clear h2 k0 k1 k2 k3 k4 k5 p1 f1
      go_wp2_with fail
      go_ret
      exact ⟨rfl, HB2.out.setCell (by simp) _⟩
  · rw [if_neg hq]
    by_cases h15 : s = 15
    · subst h15
      rw [if_pos rfl]
      go_enter Try.func26, Try.ntmps26
      go_wp2_with fail
      refine (WA.out (w.heap.size + 1) _ ?_ ?_ ?_ ?_).mono ?_
      · exact ((Below.refl _ _).alloc (Nat.le_refl _) _).alloc (by simp) _
      · omega
      · simp
      · simp
      rintro e w1 ⟨rfl, h1⟩
      have hs1 : w.heap.size + 2 ≤ w1.heap.size := by have := h1.1.size; simp at this; omega
      have k0 : w1.cell? ⟨w.heap.size, 0, none⟩ = some (.string nm) := (h1.1.cell (by simp <;> omega) (by omega)).trans (by simp)
      have k1 : w1.cell? ⟨w.heap.size, 1, none⟩ = some pv := (h1.1.cell (by simp <;> omega) (by omega)).trans (by simp)
      have k2 : w1.cell? ⟨w.heap.size, 2, none⟩ = some tv := (h1.1.cell (by simp <;> omega) (by omega)).trans (by simp)
      have k3 : w1.cell? ⟨w.heap.size, 3, none⟩ = some (.int .i64 pr) := (h1.1.cell (by simp <;> omega) (by omega)).trans (by simp)
      have k4 : w1.cell? ⟨w.heap.size, 4, none⟩ = some v := (h1.1.cell (by simp <;> omega) (by omega)).trans (by simp)
      have k5 : w1.cell? ⟨w.heap.size, 5, none⟩ = some (.int .i64 at_) := (h1.1.cell (by simp <;> omega) (by omega)).trans (by simp)
      have HB := Lib.hid (show Below w.heap.size w w1 from Below.trans (((Below.refl _ _).alloc (Nat.le_refl _) _).alloc (by simp) _) (h1.1.below (fun k hk => by omega) (by simp <;> omega)))
      have p1 := h1.2.1
      have f1 := h1.2.2
      clear h1
      go_wp2_with fail
      refine (DA.out _ HB.out).mono ?_
      rintro e w2 ⟨rfl, h2⟩
      have hs2 := h2.size
      have p2 : w2.cell? ⟨w.heap.size + 1, 0, none⟩ = some (.int .i64 15) := (h2.cell (p := ⟨w.heap.size + 1, 0, none⟩) (by simp; omega)).trans p1
      have f2 : w2.frozen? ⟨w.heap.size + 1, 0, none⟩ = false := (h2.frozen (p := ⟨w.heap.size + 1, 0, none⟩) (by simp; omega)).trans f1
      have HB2 := Lib.hid (HB.out.trans (h2.mono HB.out.size))
      clear h2 k0 k1 k2 k3 k4 k5 p1 f1
      go_wp2_with fail
      go_ret
      exact ⟨rfl, HB2.out⟩
    · rw [if_neg h15]
      have e15 : (s == 15) = false := by simpa using h15
      clear h15
      go_enter Try.func26, Try.ntmps26
      go_wp2_with fail
      refine (WA.out (w.heap.size + 1) _ ?_ ?_ ?_ ?_).mono ?_
      · exact ((Below.refl _ _).alloc (Nat.le_refl _) _).alloc (by simp) _
      · omega
      · simp
      · simp
      rintro e w1 ⟨rfl, h1⟩
      have hs1 : w.heap.size + 2 ≤ w1.heap.size := by have := h1.1.size; simp at this; omega
      have k0 : w1.cell? ⟨w.heap.size, 0, none⟩ = some (.string nm) := (h1.1.cell (by simp <;> omega) (by omega)).trans (by simp)
      have k1 : w1.cell? ⟨w.heap.size, 1, none⟩ = some pv := (h1.1.cell (by simp <;> omega) (by omega)).trans (by simp)
      have k2 : w1.cell? ⟨w.heap.size, 2, none⟩ = some tv := (h1.1.cell (by simp <;> omega) (by omega)).trans (by simp)
      have k3 : w1.cell? ⟨w.heap.size, 3, none⟩ = some (.int .i64 pr) := (h1.1.cell (by simp <;> omega) (by omega)).trans (by simp)
      have k4 : w1.cell? ⟨w.heap.size, 4, none⟩ = some v := (h1.1.cell (by simp <;> omega) (by omega)).trans (by simp)
      have k5 : w1.cell? ⟨w.heap.size, 5, none⟩ = some (.int .i64 at_) := (h1.1.cell (by simp <;> omega) (by omega)).trans (by simp)
      have HB := Lib.hid (show Below w.heap.size w w1 from Below.trans (((Below.refl _ _).alloc (Nat.le_refl _) _).alloc (by simp) _) (h1.1.below (fun k hk => by omega) (by simp <;> omega)))
      have p1 := h1.2.1
      have f1 := h1.2.2
      clear h1
      go_wp2_with fail
      refine (DA.out _ HB.out).mono ?_
      rintro e w2 ⟨rfl, h2⟩
      have hs2 := h2.size
      have p2 : w2.cell? ⟨w.heap.size + 1, 0, none⟩ = some (.int .i64 s) := (h2.cell (p := ⟨w.heap.size + 1, 0, none⟩) (by simp; omega)).trans p1
      have f2 : w2.frozen? ⟨w.heap.size + 1, 0, none⟩ = false := (h2.frozen (p := ⟨w.heap.size + 1, 0, none⟩) (by simp; omega)).trans f1
      have HB2 := Lib.hid (HB.out.trans (h2.mono HB.out.size))
      clear h2 k0 k1 k2 k3 k4 k5 p1 f1
      go_wp2_with fail
      go_ret
      exact ⟨rfl, HB2.out⟩
end Go.Proofs.Ytpfgidhchjcomaa
namespace Go.Proofs.Ytpfgidhchjcomaa
open Go.RowKit
set_option linter.unusedVariables false
def headB (nm : ByteArray) (ps ts : List ByteArray) (pr : Int) (l : List Nd) : Bool := (arM nm != (ps.length : Int)) || decide (pr < 0) || decide (999 < pr) || (ps.any fun s => !nameB s) || (ts.any fun s => !nameB s) || !statB l
def checkM (d : Nat) (nm : ByteArray) (ps ts : List ByteArray) (pr : Int) (l : List Nd) : Int :=
  if headB nm ps ts pr l = true then 3 else if (l.all fun n => fitsB d n false) = false then 3 else sizedM (d + 1) l
set_option maxRecDepth 100000 in
set_option maxHeartbeats 8000000 in
theorem check_any (x : Nat → Prop) (d : Nat) (nm : ByteArray) (pv tv : Value) (ps ts : List ByteArray) (pr : Int) (v : Value) (at_ : Int) (l : List Nd) (w : World) (hd : d < 900) (hp : StrsX x w pv ps) (ht : StrsX x w tv ts) (h : NodesX x (d + 1) w v l) :
    Calls Try.prog 10 #[.agg #[.string nm, pv, tv, .int .i64 pr, v, .int .i64 at_]] w fun e w' => e = .returned (.int .i64 (checkM d nm ps ts pr l)) ∧ Below w.heap.size w w' := by
  obtain ⟨pa, pc, rfl, -⟩ := id hp
  obtain ⟨ta, tc, rfl, -⟩ := id ht
  have hb0 : Below w.heap.size w (w.alloc (.cells #[.string nm, .slice pa ps.length pc, .slice ta ts.length tc, .int .i64 pr, v, .int .i64 at_] 32 (0, 0))) := (Below.refl _ _).alloc (Nat.le_refl _) _
  have AR := Lib.hid (fun W => arity_any nm W)
  have BP := Lib.hid (show ∀ W, Below (w.alloc (.cells #[.string nm, .slice pa ps.length pc, .slice ta ts.length tc, .int .i64 pr, v, .int .i64 at_] 32 (0, 0))).heap.size (w.alloc (.cells #[.string nm, .slice pa ps.length pc, .slice ta ts.length tc, .int .i64 pr, v, .int .i64 at_] 32 (0, 0))) W → Calls Try.prog 21 #[.slice pa ps.length pc, .func (.func 18) #[] #[]] W fun e w' => e = .returned (.bool (ps.any fun s => !nameB s)) ∧ Below W.heap.size W w' from fun W hb => containsS_any _ (Or.inl rfl) x _ ps W (hp.later (hb0.trans (hb.mono (by simp)))))
  have BT := Lib.hid (show ∀ W, Below (w.alloc (.cells #[.string nm, .slice pa ps.length pc, .slice ta ts.length tc, .int .i64 pr, v, .int .i64 at_] 32 (0, 0))).heap.size (w.alloc (.cells #[.string nm, .slice pa ps.length pc, .slice ta ts.length tc, .int .i64 pr, v, .int .i64 at_] 32 (0, 0))) W → Calls Try.prog 21 #[.slice ta ts.length tc, .func (.func 18) #[] #[]] W fun e w' => e = .returned (.bool (ts.any fun s => !nameB s)) ∧ Below W.heap.size W w' from fun W hb => containsS_any _ (Or.inl rfl) x _ ts W (ht.later (hb0.trans (hb.mono (by simp)))))
  have BS := Lib.hid (show ∀ W, Below (w.alloc (.cells #[.string nm, .slice pa ps.length pc, .slice ta ts.length tc, .int .i64 pr, v, .int .i64 at_] 32 (0, 0))).heap.size (w.alloc (.cells #[.string nm, .slice pa ps.length pc, .slice ta ts.length tc, .int .i64 pr, v, .int .i64 at_] 32 (0, 0))) W → Calls Try.prog 22 #[v] W fun e w' => e = .returned (.bool (statB l)) ∧ Below W.heap.size W w' from fun W hb => statements_any x d v l W (h.later (hb0.trans (hb.mono (by simp)))))
  have AA := Lib.hid (fun W (hb : Below w.heap.size w W) => all_any x d 24 (Or.inr (Or.inr (Or.inr rfl))) (fun n => fitsB d n false) (fn_fits x d) v l W (h.later hb))
  have SA := Lib.hid (fun W (hb : Below w.heap.size w W) => sized_any x (d + 1) nm (.slice pa ps.length pc) (.slice ta ts.length tc) pr v at_ l W (by omega) (h.later hb))
  have HC := Lib.hid (show checkM d nm ps ts pr l = (if ((arM nm != (ps.length : Int)) || decide (pr < 0) || decide (999 < pr) || (ps.any fun s => !nameB s) || (ts.any fun s => !nameB s) || !statB l) = true then 3 else if (l.all fun n => fitsB d n false) = false then 3 else sizedM (d + 1) l) from rfl)
  rw [HC.out]
  clear HC h hp ht hb0
  have ⟨a1, a2⟩ := arM_bounds nm
  generalize arM nm = t at *
  generalize (ps.any fun s => !nameB s) = rp at *
  generalize (ts.any fun s => !nameB s) = rt at *
  generalize statB l = rs at *
  generalize (l.all fun n => fitsB d n false) = ra at *
  generalize sizedM (d + 1) l = sz at *
  generalize ps.length = m at *
  generalize ts.length = mt at *
  by_cases c1 : t = (m : Int)
  rotate_left
  · have e1 : (t != (m : Int)) = true := by simpa using c1
    have HF : ((t != (m : Int)) || decide (pr < 0) || decide (999 < pr) || rp || rt || !rs) = true := by rw [e1]; simp
    rw [if_pos HF]
    clear HF c1
    go_enter Try.func10, Try.ntmps10
    go_wp2_with fail
    (refine wp_region_later (by kernel_rfl) (by kernel_rfl) ?_; (repeat (go_big_quiet_step ((first | (go_at_call 20; exact calls_later AR.out) | (go_at_call 21; exact calls_later_if BP.out) | (go_at_call 21; exact calls_later_if BT.out) | (go_at_call 22; exact calls_later_if BS.out))))); refine wpQuiet_nil ?_; intro w4 hw4; have hg := later_elim hw4; clear hw4)
    have HG := Lib.hid (show Below w.heap.size w w4 from ((Below.refl _ _).alloc (Nat.le_refl _) _).trans (hg.mono (by simp)))
    clear hg
    go_wp2_with fail
    go_ret
    exact ⟨rfl, HG.out⟩
  have e1 : (t != (m : Int)) = false := by simpa using c1
  clear c1
  by_cases c2 : pr < 0
  · have e2 : decide (pr < 0) = true := by simpa using c2
    have HF : ((t != (m : Int)) || decide (pr < 0) || decide (999 < pr) || rp || rt || !rs) = true := by rw [e1, e2]; simp
    rw [if_pos HF]
    clear HF
    go_enter Try.func10, Try.ntmps10
    go_wp2_with fail
    (refine wp_region_later (by kernel_rfl) (by kernel_rfl) ?_; (repeat (go_big_quiet_step ((first | (go_at_call 20; exact calls_later AR.out) | (go_at_call 21; exact calls_later_if BP.out) | (go_at_call 21; exact calls_later_if BT.out) | (go_at_call 22; exact calls_later_if BS.out))))); refine wpQuiet_nil ?_; intro w4 hw4; have hg := later_elim hw4; clear hw4)
    have HG := Lib.hid (show Below w.heap.size w w4 from ((Below.refl _ _).alloc (Nat.le_refl _) _).trans (hg.mono (by simp)))
    clear hg
    go_wp2_with fail
    go_ret
    exact ⟨rfl, HG.out⟩
  have e2 : decide (pr < 0) = false := by simpa using c2
  by_cases c3 : 999 < pr
  · have e3 : decide (999 < pr) = true := by simpa using c3
    have HF : ((t != (m : Int)) || decide (pr < 0) || decide (999 < pr) || rp || rt || !rs) = true := by rw [e1, e2, e3]; simp
    rw [if_pos HF]
    clear HF
    go_enter Try.func10, Try.ntmps10
    go_wp2_with fail
    (refine wp_region_later (by kernel_rfl) (by kernel_rfl) ?_; (repeat (go_big_quiet_step ((first | (go_at_call 20; exact calls_later AR.out) | (go_at_call 21; exact calls_later_if BP.out) | (go_at_call 21; exact calls_later_if BT.out) | (go_at_call 22; exact calls_later_if BS.out))))); refine wpQuiet_nil ?_; intro w4 hw4; have hg := later_elim hw4; clear hw4)
    have HG := Lib.hid (show Below w.heap.size w w4 from ((Below.refl _ _).alloc (Nat.le_refl _) _).trans (hg.mono (by simp)))
    clear hg
    go_wp2_with fail
    go_ret
    exact ⟨rfl, HG.out⟩
  have e3 : decide (999 < pr) = false := by simpa using c3
  have HD := Lib.hid (show ((t != (m : Int)) || decide (pr < 0) || decide (999 < pr) || rp || rt || !rs) = (rp || rt || !rs) by rw [e1, e2, e3]; simp)
  rw [HD.out]
  clear HD
  cases rp
  rotate_left
  · rw [if_pos (by simp)]
    go_enter Try.func10, Try.ntmps10
    go_wp2_with fail
    (refine wp_region_later (by kernel_rfl) (by kernel_rfl) ?_; (repeat (go_big_quiet_step ((first | (go_at_call 20; exact calls_later AR.out) | (go_at_call 21; exact calls_later_if BP.out) | (go_at_call 21; exact calls_later_if BT.out) | (go_at_call 22; exact calls_later_if BS.out))))); refine wpQuiet_nil ?_; intro w4 hw4; have hg := later_elim hw4; clear hw4)
    have HG := Lib.hid (show Below w.heap.size w w4 from ((Below.refl _ _).alloc (Nat.le_refl _) _).trans (hg.mono (by simp)))
    clear hg
    go_wp2_with fail
    go_ret
    exact ⟨rfl, HG.out⟩
  cases rt
  rotate_left
  · rw [if_pos (by simp)]
    go_enter Try.func10, Try.ntmps10
    go_wp2_with fail
    (refine wp_region_later (by kernel_rfl) (by kernel_rfl) ?_; (repeat (go_big_quiet_step ((first | (go_at_call 20; exact calls_later AR.out) | (go_at_call 21; exact calls_later_if BP.out) | (go_at_call 21; exact calls_later_if BT.out) | (go_at_call 22; exact calls_later_if BS.out))))); refine wpQuiet_nil ?_; intro w4 hw4; have hg := later_elim hw4; clear hw4)
    have HG := Lib.hid (show Below w.heap.size w w4 from ((Below.refl _ _).alloc (Nat.le_refl _) _).trans (hg.mono (by simp)))
    clear hg
    go_wp2_with fail
    go_ret
    exact ⟨rfl, HG.out⟩
  cases rs
  · rw [if_pos (by simp)]
    go_enter Try.func10, Try.ntmps10
    go_wp2_with fail
    (refine wp_region_later (by kernel_rfl) (by kernel_rfl) ?_; (repeat (go_big_quiet_step ((first | (go_at_call 20; exact calls_later AR.out) | (go_at_call 21; exact calls_later_if BP.out) | (go_at_call 21; exact calls_later_if BT.out) | (go_at_call 22; exact calls_later_if BS.out))))); refine wpQuiet_nil ?_; intro w4 hw4; have hg := later_elim hw4; clear hw4)
    have HG := Lib.hid (show Below w.heap.size w w4 from ((Below.refl _ _).alloc (Nat.le_refl _) _).trans (hg.mono (by simp)))
    clear hg
    go_wp2_with fail
    go_ret
    exact ⟨rfl, HG.out⟩
  rw [if_neg (by simp)]
  cases ra
  · rw [if_pos rfl]
    go_enter Try.func10, Try.ntmps10
    go_wp2_with fail
    (refine wp_region_later (by kernel_rfl) (by kernel_rfl) ?_; (repeat (go_big_quiet_step ((first | (go_at_call 20; exact calls_later AR.out) | (go_at_call 21; exact calls_later_if BP.out) | (go_at_call 21; exact calls_later_if BT.out) | (go_at_call 22; exact calls_later_if BS.out))))); refine wpQuiet_nil ?_; intro w4 hw4; have hg := later_elim hw4; clear hw4)
    have HG := Lib.hid (show Below w.heap.size w w4 from ((Below.refl _ _).alloc (Nat.le_refl _) _).trans (hg.mono (by simp)))
    have k4 : w4.cell? ⟨w.heap.size, 4, none⟩ = some v := (hg.cell (p := ⟨w.heap.size, 4, none⟩) (by simp)).trans (by simp)
    clear hg
    go_wp2_with fail
    refine (AA.out _ HG.out).mono ?_
    rintro e w5 ⟨rfl, h5⟩
    have H5 := Lib.hid (HG.out.trans (h5.mono HG.out.size))
    clear h5
    go_wp2_with fail
    go_ret
    exact ⟨rfl, H5.out⟩
  rw [if_neg (by simp)]
  go_enter Try.func10, Try.ntmps10
  go_wp2_with fail
  (refine wp_region_later (by kernel_rfl) (by kernel_rfl) ?_; (repeat (go_big_quiet_step ((first | (go_at_call 20; exact calls_later AR.out) | (go_at_call 21; exact calls_later_if BP.out) | (go_at_call 21; exact calls_later_if BT.out) | (go_at_call 22; exact calls_later_if BS.out))))); refine wpQuiet_nil ?_; intro w4 hw4; have hg := later_elim hw4; clear hw4)
  have HG := Lib.hid (show Below w.heap.size w w4 from ((Below.refl _ _).alloc (Nat.le_refl _) _).trans (hg.mono (by simp)))
  have hs4 := hg.size
  have hs0 : w.heap.size < w4.heap.size := by have := hg.size; simp at this; omega
  have k0 : w4.cell? ⟨w.heap.size, 0, none⟩ = some (.string nm) := (hg.cell (p := ⟨w.heap.size, 0, none⟩) (by simp)).trans (by simp)
  have k1 : w4.cell? ⟨w.heap.size, 1, none⟩ = some (.slice pa m pc) := (hg.cell (p := ⟨w.heap.size, 1, none⟩) (by simp)).trans (by simp)
  have k2 : w4.cell? ⟨w.heap.size, 2, none⟩ = some (.slice ta mt tc) := (hg.cell (p := ⟨w.heap.size, 2, none⟩) (by simp)).trans (by simp)
  have k3 : w4.cell? ⟨w.heap.size, 3, none⟩ = some (.int .i64 pr) := (hg.cell (p := ⟨w.heap.size, 3, none⟩) (by simp)).trans (by simp)
  have k4 : w4.cell? ⟨w.heap.size, 4, none⟩ = some v := (hg.cell (p := ⟨w.heap.size, 4, none⟩) (by simp)).trans (by simp)
  have k5 : w4.cell? ⟨w.heap.size, 5, none⟩ = some (.int .i64 at_) := (hg.cell (p := ⟨w.heap.size, 5, none⟩) (by simp)).trans (by simp)
  clear hg
  go_wp2_with fail
  refine (AA.out _ HG.out).mono ?_
  rintro e w5 ⟨rfl, h5⟩
  replace k0 := (h5.cell (p := ⟨w.heap.size, 0, none⟩) hs0).trans k0
  replace k1 := (h5.cell (p := ⟨w.heap.size, 1, none⟩) hs0).trans k1
  replace k2 := (h5.cell (p := ⟨w.heap.size, 2, none⟩) hs0).trans k2
  replace k3 := (h5.cell (p := ⟨w.heap.size, 3, none⟩) hs0).trans k3
  replace k4 := (h5.cell (p := ⟨w.heap.size, 4, none⟩) hs0).trans k4
  replace k5 := (h5.cell (p := ⟨w.heap.size, 5, none⟩) hs0).trans k5
  have H5 := Lib.hid (HG.out.trans (h5.mono HG.out.size))
  clear h5
  go_wp2_with fail
  refine (SA.out _ H5.out).mono ?_
  rintro e w6 ⟨rfl, h6⟩
  have H6 := Lib.hid (H5.out.trans (h6.mono H5.out.size))
  clear h6
  go_wp2_with fail
  go_ret
  exact ⟨rfl, H6.out⟩
end Go.Proofs.Ytpfgidhchjcomaa
