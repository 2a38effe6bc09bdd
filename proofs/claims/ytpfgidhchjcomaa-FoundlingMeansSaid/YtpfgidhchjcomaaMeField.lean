/- A name's number among the fields: the last that has it. -/
import Derived.RangeFuncNested
import Derived.RangeFuncBound
import Derived.RangeFuncCalls
import Derived.RangeFuncLeaves
import Derived.RangeFuncBox
import Derived.Shelf.Abstract
import Derived.Shelf.RegionOpen
import Derived.WalkKit
import Derived.OwnWalkIn
import Derived.TacticsInMore
import Derived.LoopNIn
import Derived.LoopIn
import Derived.Maps.AppendAt
import Derived.Test.YtpfgidhchjcomaaMeSame
namespace Go.Proofs.Ytpfgidhchjcomaa
open Go.RowKit Go.Shelf
attribute [local go_sem] Oper.semAt_some
set_option linter.unusedVariables false
/-- numbers below m -/
abbrev Upto (m : Nat) := { x : Nat // x < m }
def backL (m : Nat) : (k : Nat) → k ≤ m → List (Upto m)
  | 0, _ => []
  | k + 1, h => backL m k (by omega) ++ [⟨m - 1 - k, by omega⟩]
theorem backL_len (m k : Nat) (h : k ≤ m) : (backL m k h).length = k := by
  induction k with
  | zero => rfl
  | succ k ih => simp [backL, ih]
/-- what the iterator reads -/
def KB (Bs : Nat) (x : Nat → Prop) (a : Option Addr) (cap : Nat) (L : List ByteArray) (W : World) : Prop := Boxed W Bs 22 (.slice a L.length cap) ∧ StrsX x W (.slice a L.length cap) L
set_option maxRecDepth 100000 in
set_option maxHeartbeats 4000000 in
theorem back1_in (F : Fence) (n : Nat) (hf : F.fn 75) (hro : F.round = none) (hn : 1 ≤ n) (l Bs : Nat) (x : Nat → Prop) (a : Option Addr) (cap : Nat) (L : List ByteArray) (hL : L.length ≤ 1000) (J Jx : List (Upto L.length) → World → Prop)
    (hY : ∀ pre y W, J pre W → pre.length < L.length → YieldAt F (n - 1) Try.prog l #[.int .i64 (y.1 : Int), .string (L[y.1]'y.2)] W fun e W' =>
      (e = .returned (.bool true) ∧ J (pre ++ [y]) W' ∧ (KB Bs x a cap L W → KB Bs x a cap L W')) ∨ (e = .returned (.bool false) ∧ Jx (pre ++ [y]) W'))
    (W : World) (hB : KB Bs x a cap L W) (h0 : J [] W) :
    CallsIn F n Try.prog 75 #[.func (.yield l) #[] #[], .pointer (some ⟨Bs, 0, none⟩)] W fun e W' => (∃ v, e = .returned v) ∧
      ((∃ ys, ys = backL L.length L.length (Nat.le_refl _) ∧ J ys W') ∨ (∃ pre, (∃ k hk, pre = backL L.length k hk) ∧ Jx pre W')) := by
  refine callsIn_of_wp Try.func75 rfl hf ?_ hro
  simp only [Try.ntmps75, List.size_toArray, List.length_cons, List.length_nil, Nat.reduceAdd, Nat.reduceSub, Array.replicate_succ, Array.replicate_zero, List.push_toArray, List.append_toArray, List.nil_append, List.cons_append]
  have hc0 := hB.1.cell
  gi_wp2
  gi_loopw [3] (fun i wr => ∃ (k : Nat) (hk : k ≤ L.length), i = .int .i64 ((L.length : Int) - 1 - (k : Int)) ∧ J (backL L.length k hk) wr ∧ KB Bs x a cap L wr)
    (fun i _ => (intOf i + 1).toNat)
  case atStart => exact ⟨0, Nat.zero_le _, by congr 1; omega, h0, hB⟩
  case round =>
    obtain ⟨k, hk, rfl, hJs, hkb⟩ := hrel
    have hcs := hkb.1.cell
    by_cases hlt : k < L.length
    · obtain ⟨j, hj⟩ : ∃ j : Nat, L.length = k + 1 + j := ⟨L.length - (k + 1), by omega⟩
      have hij : (L.length : Int) - 1 - (k : Int) = (j : Int) := by omega
      have hjl : j < L.length := by omega
      have hjm : L.length - 1 - k = j := by omega
      obtain ⟨b, o, rfl, hcell⟩ := hkb.2.cell j _ (List.getElem?_eq_getElem hjl)
      obtain ⟨fn, tmps, assign, body, hy, hR⟩ := hY _ ⟨j, hjl⟩ wr hJs (by rw [backL_len]; exact hlt)
      dsimp only at hy
      have hnext : backL L.length k hk ++ [⟨j, hjl⟩] = backL L.length (k + 1) hlt := by
        rw [backL]
        congr 2
        exact Subtype.ext hjm.symm
      rw [hnext] at hR
      rw [hij]
      have HJ := Lib.hid hj
      clear hj hij hjm
      gi_wp2
      refine hR.mono ?_
      rintro e W3 (⟨rfl, hJ3, hk3⟩ | ⟨rfl, hJx3⟩)
      · have hk4 := hk3 hkb
        gi_wp2
        go_roundw
        case rel => exact ⟨k + 1, by omega, by have := HJ.out; congr 1; omega, hJ3, hk4⟩
        case measure => first | (simp [intOf]; done) | (simp [intOf]; omega)
      · gi_wp2
        refine bodyPost_ret (results_none rfl _ _ _) rfl ?_
        exact ⟨⟨_, rfl⟩, .inr ⟨_, ⟨k + 1, _, rfl⟩, hJx3⟩⟩
    · obtain rfl : k = L.length := by omega
      have hij : (L.length : Int) - 1 - (L.length : Int) = -1 := by omega
      rw [hij]
      gi_wp2
      go_end0
      exact ⟨⟨_, rfl⟩, .inl ⟨_, rfl, hJs⟩⟩
set_option maxRecDepth 100000 in
set_option maxHeartbeats 1000000 in
theorem back_in (F : Fence) (n : Nat) (hf : F.fn 70) (hro : F.round = none) (a : Option Addr) (len cap : Nat) (w : World) :
    CallsIn F n Try.prog 70 #[.slice a len cap] w fun e w' => e = .returned (.func (.func 75) #[] #[.pointer (some ⟨w.heap.size, 0, none⟩)]) ∧ w' = w.alloc (.cells #[.slice a len cap] 22) := by
  refine callsIn_of_wp Try.func70 rfl hf ?_ hro
  simp only [Try.ntmps70, List.size_toArray, List.length_cons, List.length_nil, Nat.reduceAdd, Nat.reduceSub, Array.replicate_succ, Array.replicate_zero, List.push_toArray, List.append_toArray, List.nil_append, List.cons_append]
  gi_wp2
  go_ret
  exact ⟨rfl, rfl⟩
theorem back_stops (F : Fence) (n : Nat) (hf : F.fn 75) (hro : F.round = none) (hn : 1 ≤ n) (Bs : Nat) (x : Nat → Prop) (a : Option Addr) (cap : Nat) (L : List ByteArray) (hL : L.length ≤ 1000) (w : World) (hlt : ∀ b, x b → b < w.heap.size) (hB : KB Bs x a cap L w) :
    SeqStopsK F n Try.prog 75 #[.pointer (some ⟨Bs, 0, none⟩)] (fun y : Upto L.length => #[Value.int .i64 (y.1 : Int), .string (L[y.1]'y.2)]) (fun W W' => KB Bs x a cap L W → KB Bs x a cap L W') (fun ys => ys = backL L.length L.length (Nat.le_refl _)) (fun pre => ∃ k hk, pre = backL L.length k hk) L.length w := fun l J Jx W hW hJ _ hY h0 => by
  have hB' : KB Bs x a cap L W := ⟨(hW.block _ hB.1.lt).trans hB.1, hB.2.later hW⟩
  exact back1_in F n hf hro hn l Bs x a cap L hL J Jx hY W hB' h0
def fieldG (L : List ByteArray) (s : ByteArray) : Nat → Int
  | 0 => -1
  | n + 1 => if (L[n]?.map fun f => f.toList == s.toList) = some true then (n : Int) else fieldG L s n
def fieldM (L : List ByteArray) (s : ByteArray) : Int := fieldG L s L.length
theorem fieldG_back (L : List ByteArray) (s : ByteArray) : ∀ (k : Nat) (hk : k ≤ L.length), (∀ z : Upto L.length, z ∈ backL L.length k hk → ((L[z.1]'z.2).toList == s.toList) = false) → fieldM L s = fieldG L s (L.length - k)
  | 0, _, _ => rfl
  | k + 1, hk, h => by
    have ih := fieldG_back L s k (by omega) fun z hz => h z (List.mem_append_left _ hz)
    rw [ih]
    have e : L.length - k = (L.length - (k + 1)) + 1 := by omega
    rw [e]
    have hl : L.length - 1 - k < L.length := by omega
    have hz := h ⟨L.length - 1 - k, hl⟩ (List.mem_append_right _ (List.mem_singleton.2 rfl))
    have e2 : L.length - (k + 1) = L.length - 1 - k := by omega
    rw [e2]
    show (if (L[L.length - 1 - k]?.map fun f => f.toList == s.toList) = some true then ((L.length - 1 - k : Nat) : Int) else fieldG L s (L.length - 1 - k)) = _
    rw [List.getElem?_eq_getElem hl, if_neg]
    rw [Option.map_some]
    intro h1
    injection h1 with h1
    rw [hz] at h1
    cases h1
theorem fieldG_hit (L : List ByteArray) (s : ByteArray) (k : Nat) (hk : k ≤ L.length) (pre' : List (Upto L.length)) (y : Upto L.length) (he : backL L.length k hk = pre' ++ [y]) (h0 : ∀ z : Upto L.length, z ∈ pre' → ((L[z.1]'z.2).toList == s.toList) = false) (h1 : ((L[y.1]'y.2).toList == s.toList) = true) : fieldM L s = (y.1 : Int) := by
  cases k with
  | zero => cases pre' <;> simp [backL] at he
  | succ k =>
    rw [backL] at he
    obtain ⟨e1, e2⟩ := List.append_inj' he rfl
    subst e1
    injection e2 with e2 _
    have hy : y.1 = L.length - 1 - k := by rw [← e2]
    rw [fieldG_back L s k (by omega) h0]
    have e : L.length - k = y.1 + 1 := by omega
    rw [e]
    show (if (L[y.1]?.map fun f => f.toList == s.toList) = some true then (y.1 : Int) else fieldG L s y.1) = _
    rw [List.getElem?_eq_getElem y.2, if_pos]
    rw [Option.map_some, h1]
set_option maxRecDepth 100000 in
set_option maxHeartbeats 4000000 in
theorem field_any (x : Nat → Prop) (p : Nat) (fv : Value) (L : List ByteArray) (s : ByteArray) (w : World) (hp : w.cell? ⟨p, 2, none⟩ = some fv) (hL : StrsX x w fv L) (hn : L.length ≤ 1000) :
    Calls Try.prog 44 #[.pointer (some ⟨p, 0, none⟩), .string s] w fun e w' => e = .returned (.int .i64 (fieldM L s)) ∧ Below w.heap.size w w' := by
  refine (callsIn_wide (n := 5)).1 ?_
  refine callsIn_of_wp_marks Try.func44 rfl trivial ?_ rfl
  simp only [Try.ntmps44, List.size_toArray, List.length_cons, List.length_nil, Nat.reduceAdd, Nat.reduceSub, Array.replicate_succ, Array.replicate_zero, List.push_toArray, List.append_toArray, List.nil_append, List.cons_append]
  obtain ⟨a, cap, rfl, -⟩ := id hL
  have hlp := lt_of_cell hp
  gi_wp2_with (refine ⟨trivial, ?_⟩; gi_at_call 70; refine (back_in Fence.wide _ trivial rfl _ _ _ _).mono ?_; rintro e w' ⟨rfl, rfl⟩)
  have bN := Boxed.new w 9 (.string s)
  have bR := Boxed.new (w.alloc (.cells #[.string s] 9)) 3 (.int .i64 0)
  have bS := Boxed.new ((w.alloc (.cells #[.string s] 9)).alloc (.cells #[.int .i64 0] 3)) 22 (.slice a L.length cap)
  have bN := (bN.alloc (.cells #[.int .i64 0] 3)).alloc (.cells #[.slice a L.length cap] 22)
  have bR := bR.alloc (.cells #[.slice a L.length cap] 22)
  have hB0 : Below w.heap.size w (((w.alloc (.cells #[.string s] 9)).alloc (.cells #[.int .i64 0] 3)).alloc (.cells #[.slice a L.length cap] 22)) := ((((Below.refl _ w).alloc (Nat.le_refl _) _).alloc (by simp) _).alloc (by simp; omega) _)
  have hs0 : (((w.alloc (.cells #[.string s] 9)).alloc (.cells #[.int .i64 0] 3)).alloc (.cells #[.slice a L.length cap] 22)).heap.size = w.heap.size + 3 := by simp
  rw [World.size_alloc] at bR
  rw [World.size_alloc, World.size_alloc] at bS
  obtain ⟨W0, hW0⟩ : ∃ W0, (((w.alloc (.cells #[.string s] 9)).alloc (.cells #[.int .i64 0] 3)).alloc (.cells #[.slice a L.length cap] 22)) = W0 := ⟨_, rfl⟩
  rw [hW0] at bN bR bS hB0 hs0 ⊢
  clear hW0
  have hL0 : StrsX (fun b => b < w.heap.size) W0 (.slice a L.length cap) L := (hL.turn fun b hb _ => hb).later hB0
  have hseq := back_stops Fence.wide (5 - 1) trivial rfl (by omega) (w.heap.size + 1 + 1) (fun b => b < w.heap.size) a cap L hn W0 (fun b hb => by omega) ⟨bS, hL0⟩
  refine wpIn_rangeFunc_ownG rfl (by omega) (gf := 75) (lb := #[.pointer (some ⟨w.heap.size + 1 + 1, 0, none⟩)]) rfl trivial (enters_of Try.func75 (by kernel_rfl) rfl)
    hseq (fun h k g => k (h g)) ?hKb (Below.refl _ _) (fun _ => rfl)
    (fun pre W => ((Boxed W w.heap.size 9 (.string s) ∧ Boxed W (w.heap.size + 1) 3 (.int .i64 0) ∧ Boxed W (w.heap.size + 1 + 1) 22 (.slice a L.length cap)) ∧ (∀ y : Upto L.length, y ∈ pre → ((L[y.1]'y.2).toList == s.toList) = false)) ∧ Below w.heap.size w W)
    (fun c pre W => (c = .ret ∧ (∃ pre' y, pre = pre' ++ [y] ∧ (∀ z : Upto L.length, z ∈ pre' → ((L[z.1]'z.2).toList == s.toList) = false) ∧ ((L[y.1]'y.2).toList == s.toList) = true ∧ Boxed W (w.heap.size + 1) 3 (.int .i64 (y.1 : Int)))) ∧ Below w.heap.size w W)
    ?hI ?hIx ⟨⟨⟨bN, bR, bS⟩, fun y hy => by cases hy⟩, hB0⟩
    (fun y => { tmps := #[.pointer (some ⟨p, 0, none⟩), .string s, undef, .pointer (some ⟨w.heap.size, 0, none⟩), .pointer (some ⟨w.heap.size + 1, 0, none⟩), .int .i64 (y.1 : Int), .string (L[y.1]'y.2), .pointer (some ⟨p, 0, none⟩), .pointer (some ⟨p, 0, none⟩), .pointer (some ⟨p, 2, none⟩), .slice a L.length cap, .func (.func 75) #[] #[.pointer (some ⟨w.heap.size + 1 + 1, 0, none⟩)], .int .i64 (y.1 : Int), .string (L[y.1]'y.2), undef, undef, undef, undef], defers := [] }) ?assign ?body ?done ?stop
  case hKb =>
    rintro W l ob ob' hl - - - ⟨g1, g2⟩
    exact ⟨(World.putObj_heap_other (by omega)).trans g1, g2.keep fun k _ hk => World.putObj_heap_other (by omega)⟩
  case hI =>
    exact OwnFrom.and (OwnFrom.and (OwnFrom.and (Own.from (boxed_own _ _ (fun _ => _)) _) (OwnFrom.and (Own.from (boxed_own _ _ (fun _ => _)) _) (Own.from (boxed_own _ _ (fun _ => _)) _))) (ownFrom_pure _ _)) (ownFrom_below (Nat.le_refl _) (by omega))
  case hIx =>
    intro c
    refine OwnFrom.and ?_ (ownFrom_below (Nat.le_refl _) (by omega))
    rintro pre A B row ⟨e0, pre', y, e1, e2, e3, hb⟩ hg hr
    exact ⟨e0, pre', y, e1, e2, e3, (Own.from (boxed_own (w.heap.size + 1) 3 (fun _ : Unit => Value.int .i64 (y.1 : Int))) _) () A B row hb hg hr⟩
  case assign =>
    intro l x W K hK
    gi_wp2
    exact hK
  case body =>
    rintro l pre y W ⟨⟨⟨hbN, hbR, hbS⟩, hno⟩, hB⟩ hlen
    have cN := hbN.cell
    have cR := hbR.cell
    have fR := hbR.frozen
    have HNO := Lib.hid hno
    have HBB := Lib.hid hB
    clear hno hB
    by_cases h : ((L[y.1]'y.2).toList == s.toList) = true
    · have HH := Lib.hid h
      gi_wp2
      exact ⟨(KeepsOthers.setCell _ _ _).from _, ⟨rfl, pre, y, rfl, HNO.out, HH.out, hbR.set _⟩, HBB.out.setCell (p := ⟨w.heap.size + 1, 0, none⟩) (by simp) _⟩
    · have h' : ((L[y.1]'y.2).toList == s.toList) = false := by simpa using h
      clear h
      gi_wp2
      refine ⟨(KeepsOthers.refl _).from _, fun h => h, ⟨⟨⟨hbN, hbR, hbS⟩, fun z hz => ?_⟩, HBB.out⟩⟩
      rcases List.mem_append.1 hz with hz | hz
      · exact HNO.out z hz
      · simp at hz
        subst hz
        exact h'
  case done =>
    rintro D ys W hD rfl ⟨⟨⟨-, hbR, -⟩, hno⟩, hB⟩ hK
    have cR := hbR.cell
    have fR := hbR.frozen
    have HF := Lib.hid (show fieldM L s = -1 from by
      have := fieldG_back L s L.length (Nat.le_refl _) hno
      rw [Nat.sub_self] at this
      exact this)
    have HBB := Lib.hid hB
    clear hB hno
    gi_wp2
    have hK2 := (KeepsOthers.setCell W ⟨w.heap.size + 1, 0, none⟩ (.int .i64 (-1))).same D _ hK rfl
    have hR2 := hbR.set (.int .i64 (-1))
    have hR3 := cell_kept hR2.cell (grownBy_putObj' _ D (.deferred none)) (fun r e => by cases e; exact ⟨_, hK2, rfl⟩)
    refine ⟨by simp, .inl ⟨_, _, rfl, run_takeDeferred hK2, ?_⟩⟩
    exact ⟨.int .i64 (-1), by simp [results, Try.results44, go_sem, hR3], by rw [HF.out], (HBB.out.setCell (p := ⟨w.heap.size + 1, 0, none⟩) (by simp) _).trans (belowK_b (w := w) (Nat.le_refl _) _ D _ _ (by omega) hK2 rfl rfl)⟩
  case stop =>
    rintro D c pre W hD ⟨k, hk, hpre⟩ ⟨⟨rfl, pre', y, e1, e2, e3, hb⟩, hB⟩ hK
    have HF := Lib.hid (show fieldM L s = (y.1 : Int) from fieldG_hit L s k hk pre' y (hpre.symm.trans e1) e2 e3)
    have HBB := Lib.hid hB
    clear hB e1 e2 e3 hpre
    gi_wp2
    have hR3 := cell_kept hb.cell (grownBy_putObj' _ D (.deferred none)) (fun r e => by cases e; exact ⟨_, hK, rfl⟩)
    refine ⟨by simp, .inl ⟨_, _, rfl, run_takeDeferred hK, ?_⟩⟩
    exact ⟨.int .i64 (y.1 : Int), by simp [results, Try.results44, go_sem, hR3], by rw [HF.out], HBB.out.trans (belowK_b (w := w) (Nat.le_refl _) _ D _ _ (by omega) hK rfl rfl)⟩
end Go.Proofs.Ytpfgidhchjcomaa
