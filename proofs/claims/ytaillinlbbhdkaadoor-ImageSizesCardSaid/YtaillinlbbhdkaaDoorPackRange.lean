/- Bytes as words: going through chunks of eight. -/
import Derived.RangeFuncNested
import Derived.RangeFuncBound
import Derived.RangeFuncCalls
import Derived.RangeFuncLeaves
import Derived.RangeFuncBox
import Derived.Shelf.Abstract
import Derived.Shelf.RegionOpen
import Derived.WalkKit
import Derived.OwnWalkIn
import Derived.TacticsInMore
import Derived.LoopNIn
import Derived.LoopIn
import Derived.Maps.AppendAt
import Derived.Test.YtaillinlbbhdkaaDoorPackNum
namespace Go.Proofs.YtaillinlbbhdkaaDoor
open Go.RowKit Go.Shelf
attribute [local go_sem] Oper.semAt_some
set_option linter.unusedVariables false
/-- numbers below m -/
abbrev Upto (m : Nat) := { x : Nat // x < m }
def firstU (m : Nat) : (k : Nat) → k ≤ m → List (Upto m)
  | 0, _ => []
  | k + 1, h => firstU m k (by omega) ++ [⟨k, by omega⟩]
theorem firstU_len (m k : Nat) (h : k ≤ m) : (firstU m k h).length = k := by
  induction k with
  | zero => rfl
  | succ k ih => simp [firstU, ih]
set_option maxRecDepth 100000 in
set_option maxHeartbeats 2000000 in
/-- slices.Chunk's closure: chunks of eight, one after another -/
theorem chunk1_in (F : Fence) (n : Nat) (hf : F.fn 68) (hro : F.round = none) (hn : 1 ≤ n) (l Bs Bn b off m cap : Nat) (hm : m ≤ 1000000) (hcap : 8 * m ≤ cap) (J Jx : List (Upto m) → World → Prop)
    (hY : ∀ pre x W, J pre W → pre.length < m → YieldAt F (n - 1) Tryd.prog l #[.slice (some ⟨b, off + 8 * x.1, none⟩) 8 8] W fun e W' =>
      (e = .returned (.bool true) ∧ J (pre ++ [x]) W' ∧ ((Boxed W Bs 34 (.slice (some ⟨b, off, none⟩) (8 * m) cap) ∧ Boxed W Bn 3 (.int .i64 8)) → (Boxed W' Bs 34 (.slice (some ⟨b, off, none⟩) (8 * m) cap) ∧ Boxed W' Bn 3 (.int .i64 8)))) ∨ (e = .returned (.bool false) ∧ Jx (pre ++ [x]) W'))
    (W : World) (hBs : Boxed W Bs 34 (.slice (some ⟨b, off, none⟩) (8 * m) cap)) (hBn : Boxed W Bn 3 (.int .i64 8)) (hJd : ∀ pre W n, J pre W → J pre (W.drewN n)) (h0 : J [] W) :
    CallsIn F n Tryd.prog 68 #[.func (.yield l) #[] #[], .pointer (some ⟨Bs, 0, none⟩), .pointer (some ⟨Bn, 0, none⟩)] W fun e W' => (∃ v, e = .returned v) ∧
      ((∃ ys, ys = firstU m m (Nat.le_refl _) ∧ J ys W') ∨ (∃ pre, True ∧ Jx pre W')) := by
  refine callsIn_of_wp Tryd.func68 rfl hf ?_ hro
  simp only [Tryd.ntmps68, List.size_toArray, List.length_cons, List.length_nil, Nat.reduceAdd, Nat.reduceSub, Array.replicate_succ, Array.replicate_zero, List.push_toArray, List.append_toArray, List.nil_append, List.cons_append]
  gi_wp2
  gi_loopw [4, 5] (fun i _ wr => ∃ (k : Nat) (hk : k ≤ m), i = .int .i64 ((8 * k : Nat) : Int) ∧ J (firstU m k hk) wr ∧ Boxed wr Bs 34 (.slice (some ⟨b, off, none⟩) (8 * m) cap) ∧ Boxed wr Bn 3 (.int .i64 8))
    (fun i _ _ => 8 * m - (intOf i).toNat)
  case atStart => exact ⟨0, Nat.zero_le _, rfl, h0, hBs, hBn⟩
  case round =>
    obtain ⟨k, hk, rfl, hJs, hbs, hbn⟩ := hrel
    have hcs := hbs.cell
    have hcn := hbn.cell
    by_cases hlt : k < m
    · have hlt2 : 8 * k ≤ 8 * m := by omega
      have hlt3 : ((8 * k : Nat) : Int) = 8 * (k : Int) := by omega
      gi_wp2
      have hmin : min (8 : Int) ((8 * m - 8 * k : Nat) : Int) = 8 := by omega
      have hJd' := hJd _ wr 1 hJs
      have hbs' : Boxed wr.drew Bs 34 (.slice (some ⟨b, off, none⟩) (8 * m) cap) := hbs
      have hbn' : Boxed wr.drew Bn 3 (.int .i64 8) := hbn
      have hcs' := hbs'.cell
      have hcn' := hbn'.cell
      obtain ⟨fn, tmps, assign, body, hy, hR⟩ := hY _ ⟨k, hlt⟩ wr.drew hJd' (by rw [firstU_len]; exact hlt)
      dsimp only at hy
      gi_region
      all_goals (
        gi_wp2
        refine hR.mono ?_
        rintro e W3 (⟨rfl, hJ3, hk3⟩ | ⟨rfl, hJx3⟩)
        · have hk4 := hk3 ⟨hbs', hbn'⟩
          have hc3 := hk4.1.cell
          have hc4 := hk4.2.cell
          gi_wp2
          go_roundw
          case rel => exact ⟨k + 1, by omega, by congr 1, hJ3, hk4.1, hk4.2⟩
          case measure => simp [intOf]; omega
        · gi_wp2
          refine bodyPost_ret (results_none rfl _ _ _) rfl ?_
          exact ⟨⟨_, rfl⟩, .inr ⟨_, trivial, hJx3⟩⟩)
    · obtain rfl : k = m := by omega
      gi_wp2
      go_end0
      exact ⟨⟨_, rfl⟩, .inl ⟨_, rfl, hJs⟩⟩
set_option maxRecDepth 100000 in
set_option maxHeartbeats 1000000 in
/-- .. of no bytes: no round -/
theorem chunk1_nil_in (F : Fence) (n : Nat) (hf : F.fn 68) (hro : F.round = none) (l Bs Bn : Nat) (a : Option Addr) (cap : Nat) (J : List (Upto 0) → World → Prop) (W : World) (hBs : W.cell? ⟨Bs, 0, none⟩ = some (.slice a 0 cap)) (h0 : J [] W) :
    CallsIn F n Tryd.prog 68 #[.func (.yield l) #[] #[], .pointer (some ⟨Bs, 0, none⟩), .pointer (some ⟨Bn, 0, none⟩)] W fun e W' => (∃ v, e = .returned v) ∧ J [] W' := by
  refine callsIn_of_wp Tryd.func68 rfl hf ?_ hro
  simp only [Tryd.ntmps68, List.size_toArray, List.length_cons, List.length_nil, Nat.reduceAdd, Nat.reduceSub, Array.replicate_succ, Array.replicate_zero, List.push_toArray, List.append_toArray, List.nil_append, List.cons_append]
  gi_wp2
  gi_loopw [4] (fun i wr => i = .int .i64 0 ∧ J [] wr ∧ wr.cell? ⟨Bs, 0, none⟩ = some (.slice a 0 cap)) (fun _ _ => 0)
  case atStart => exact ⟨rfl, h0, hBs⟩
  case round =>
    obtain ⟨rfl, hJs, hBs⟩ := hrel
    gi_wp2
    go_end0
    exact ⟨⟨_, rfl⟩, hJs⟩
set_option maxRecDepth 100000 in
set_option maxHeartbeats 1000000 in
/-- slices.Chunk(s, 8): both are boxed; the function value captures the boxes -/
theorem chunk_in (F : Fence) (n : Nat) (hf : F.fn 55) (hro : F.round = none) (a : Option Addr) (len cap : Nat) (w : World) :
    CallsIn F n Tryd.prog 55 #[.slice a len cap, .int .i64 8] w fun e w' => e = .returned (.func (.func 68) #[] #[.pointer (some ⟨w.heap.size, 0, none⟩), .pointer (some ⟨w.heap.size + 1, 0, none⟩)]) ∧ w' = (w.alloc (.cells #[.slice a len cap] 34)).alloc (.cells #[.int .i64 8] 3) := by
  refine callsIn_of_wp Tryd.func55 rfl hf ?_ hro
  simp only [Tryd.ntmps55, List.size_toArray, List.length_cons, List.length_nil, Nat.reduceAdd, Nat.reduceSub, Array.replicate_succ, Array.replicate_zero, List.push_toArray, List.append_toArray, List.nil_append, List.cons_append]
  gi_wp2
  go_ret
  exact ⟨rfl, rfl⟩
/-- what a round of the caller's keeps: the iterator's two boxes -/
def KeepsBoxes (Bs Bn : Nat) (sv : Value) (W W' : World) : Prop := (Boxed W Bs 34 sv ∧ Boxed W Bn 3 (.int .i64 8)) → (Boxed W' Bs 34 sv ∧ Boxed W' Bn 3 (.int .i64 8))
/-- slices.Chunk(s, 8) hands back a value that gives all chunks, one after another -/
theorem chunk_stops (F : Fence) (n : Nat) (hf : F.fn 68) (hro : F.round = none) (hn : 1 ≤ n) (Bs Bn b off m cap : Nat) (hm : m ≤ 1000000) (hcap : 8 * m ≤ cap) (w : World) (hBs : Boxed w Bs 34 (.slice (some ⟨b, off, none⟩) (8 * m) cap)) (hBn : Boxed w Bn 3 (.int .i64 8)) :
    SeqStopsK F n Tryd.prog 68 #[.pointer (some ⟨Bs, 0, none⟩), .pointer (some ⟨Bn, 0, none⟩)] (fun x : Upto m => #[Value.slice (some ⟨b, off + 8 * x.1, none⟩) 8 8]) (KeepsBoxes Bs Bn (.slice (some ⟨b, off, none⟩) (8 * m) cap)) (fun ys => ys = firstU m m (Nat.le_refl _)) (fun _ => True) m w := fun l J Jx W hW hJ _ hY h0 => by
  have hbs : Boxed W Bs 34 (.slice (some ⟨b, off, none⟩) (8 * m) cap) := (hW.block _ hBs.lt).trans hBs
  have hbn : Boxed W Bn 3 (.int .i64 8) := (hW.block _ hBn.lt).trans hBn
  exact chunk1_in F n hf hro hn l Bs Bn b off m cap hm hcap J Jx hY W hbs hbn (fun pre W1 k h => hJ pre W1 (W1.drewN k) none h ⟨rfl, rfl, rfl, Nat.le_refl _, fun _ _ _ => rfl⟩ (fun r e => by cases e)) h0
theorem chunk_stops0 (F : Fence) (n : Nat) (hf : F.fn 68) (hro : F.round = none) (Bs Bn : Nat) (a : Option Addr) (cap : Nat) (w : World) (hBs : Boxed w Bs 34 (.slice a 0 cap)) (enc : Upto 0 → Array Value) (Kp : World → World → Prop) :
    SeqStopsK F n Tryd.prog 68 #[.pointer (some ⟨Bs, 0, none⟩), .pointer (some ⟨Bn, 0, none⟩)] enc Kp (fun ys => ys = []) (fun _ => True) 0 w := fun l J Jx W hW _ _ _ h0 => by
  have hbs : Boxed W Bs 34 (.slice a 0 cap) := (hW.block _ hBs.lt).trans hBs
  exact (chunk1_nil_in F n hf hro l Bs Bn a cap J W hbs.cell h0).mono fun e W' ⟨he, hj⟩ => ⟨he, .inl ⟨_, rfl, hj⟩⟩
end Go.Proofs.YtaillinlbbhdkaaDoor
