/- How deep nodes are. -/
import Derived.Test.YtpfgidhchjcomaaMeFitsB
import Derived.Lib.MinMax
namespace Go.Proofs.Ytpfgidhchjcomaa
open Go.RowKit
set_option linter.unusedVariables false
def dM : Nat → List Nd → Nat
  | 0, _ => 0
  | d + 1, l => l.foldl (fun m n => max m (1 + dM d n.kids)) 0
theorem fold_le {α : Type} (f : α → Nat) (B : Nat) (hf : ∀ a, f a ≤ B) : ∀ (l : List α) (m : Nat), m ≤ B → l.foldl (fun m n => max m (f n)) m ≤ B
  | [], m, h => h
  | a :: l, m, h => fold_le f B hf l (max m (f a)) (Nat.max_le.2 ⟨h, hf a⟩)
theorem dM_le : ∀ (d : Nat) (l : List Nd), dM d l ≤ d
  | 0, _ => Nat.le_refl _
  | d + 1, l => fold_le (fun n : Nd => 1 + dM d n.kids) (d + 1) (fun n => by have := dM_le d n.kids; omega) l 0 (Nat.zero_le _)
theorem take_foldl {α β : Type} (f : β → α → β) (b : β) (l : List α) (i : Nat) (y : α) (h : l[i]? = some y) : (l.take (i + 1)).foldl f b = f ((l.take i).foldl f b) y := by
  rw [List.take_add_one, h, List.foldl_append]
  rfl
set_option maxRecDepth 100000 in
set_option maxHeartbeats 4000000 in
theorem depth_step (x : Nat → Prop) (d : Nat) (v : Value) (l : List Nd) (w : World) (hd : d < 1000) (h : NodesX x (d + 1) w v l)
    (H : ∀ k kv' W, k ∈ l → NodesX x d W kv' k.kids → Calls Try.prog 67 #[kv'] W fun e w' => e = .returned (.int .i64 (dM d k.kids)) ∧ Below W.heap.size W w') :
    Calls Try.prog 67 #[v] w fun e w' => e = .returned (.int .i64 (dM (d + 1) l)) ∧ Below w.heap.size w w' := by
  obtain ⟨a, c, rfl, h1, h2, -⟩ := h.shape
  have HS := Lib.hid h
  have HH := Lib.hid H
  have hn : l.length ≤ 9223372036854775807 := Nat.le_trans h1 h2
  clear h H
  have HD : Hid (dM (d + 1) l = (l.take l.length).foldl (fun m n => max m (1 + dM d n.kids)) 0) := Lib.hid (by rw [List.take_length]; rfl)
  have HE := Lib.hid (fun i y hy => take_foldl (fun m (n : Nd) => max m (1 + dM d n.kids)) 0 l i y hy)
  have HF : Hid (∀ i, (l.take i).foldl (fun m (n : Nd) => max m (1 + dM d n.kids)) 0 ≤ d + 1) := Lib.hid fun i => fold_le (fun n : Nd => 1 + dM d n.kids) (d + 1) (fun n => by have := dM_le d n.kids; omega) _ 0 (Nat.zero_le _)
  rw [HD.out]
  clear HD
  generalize hff : (fun i => (l.take i).foldl (fun m (n : Nd) => max m (1 + dM d n.kids)) 0) = ff at *
  have e1 : ∀ i, (l.take i).foldl (fun m (n : Nd) => max m (1 + dM d n.kids)) 0 = ff i := fun i => by rw [← hff]
  replace HE : Hid (∀ i y, l[i]? = some y → ff (i + 1) = max (ff i) (1 + dM d y.kids)) := Lib.hid fun i y hy => by rw [← e1, ← e1]; exact HE.out i y hy
  replace HF : Hid (∀ i, ff i ≤ d + 1) := Lib.hid fun i => by rw [← e1]; exact HF.out i
  have HZ : Hid (ff 0 = 0) := Lib.hid (by rw [← e1]; rfl)
  rw [e1]
  clear e1 hff
  go_enter Try.func67, Try.ntmps67
  go_wp2_with fail
  go_loopg [3, 5, 8] l.length (fun gg s3 s5 s8 wr => ∃ i : Nat, gg = l.length - i ∧ i ≤ l.length ∧ s8 = .int .i64 (i : Int) ∧ s3 = .int .i64 (ff i : Int) ∧ Below w.heap.size w wr)
  case atStart => exact ⟨0, rfl, by omega, rfl, by rw [HZ.out]; rfl, Below.refl _ _⟩
  case round =>
    obtain ⟨i, hg, hi, rfl, rfl, hb⟩ := hrel
    have HGG := Lib.hid hg
    have HB := Lib.hid hb
    have HSI := Lib.hid (HS.out.later hb)
    clear hg hb
    by_cases hlt' : i < l.length
    · have hl := List.getElem?_eq_getElem hlt'
      obtain ⟨b, o, kv, nv, rfl, c0, c1, c2, c3, c4, c5, hk, hs, -⟩ := HSI.out.at i _ hl
      obtain ⟨ka, kc, rfl, -⟩ := id hk.shape
      obtain ⟨na, nc, rfl, -⟩ := hs
      have PX := Lib.hid (HH.out l[i] _ (wr.alloc (.cells #[.int .i64 l[i].kind, .string l[i].name, .int .i64 l[i].num, .slice ka l[i].kids.length kc, .slice na l[i].names.length nc, .int .i64 l[i].at_] 30)) (List.getElem_mem hlt') (hk.later ((Below.refl _ _).alloc (Nat.le_refl _) _)))
      have HX := Lib.hid (HE.out i _ hl)
      have hd1 := dM_le d l[i].kids
      have hd2 := HF.out i
      clear hk hl
      generalize l[i] = s at *
      generalize dM d s.kids = y at *
      go_wp2_with fail
      refine PX.out.mono ?_
      rintro e w5 ⟨rfl, h5⟩
      have H5a : Below wr.heap.size wr w5 := ((Below.refl _ _).alloc (Nat.le_refl _) _).trans (h5.mono (by simp))
      have H5 := Lib.hid (HB.out.trans (H5a.mono HB.out.size))
      clear H5a h5
      have wk : IntKind.i64.wrap (1 + (y : Int)) = 1 + (y : Int) := IntWalk.i64_in _ (by omega)
      go_wp2_with fail
      go_roundg (l.length - (i + 1))
      case measure => rw [HGG.out]; omega
      case rel => exact ⟨i + 1, rfl, by omega, by go_num, by rw [HX.out, show ((max (ff i) (1 + y) : Nat) : Int) = max (ff i : Int) (1 + (y : Int)) by omega], H5.out⟩
    · have : i = l.length := by omega
      subst this
      go_wp2_with fail
      go_ret
      exact ⟨rfl, HB.out⟩
theorem depth_any (x : Nat → Prop) : ∀ (d : Nat) (v : Value) (l : List Nd) (w : World), d < 1000 → NodesX x d w v l → Calls Try.prog 67 #[v] w fun e w' => e = .returned (.int .i64 (dM d l)) ∧ Below w.heap.size w w'
  | 0, v, l, w, hd, h => by
      obtain rfl := nodes0 h
      exact depth_step x 0 v [] w hd h.succ fun k kv' W hm hk => by cases hm
  | d + 1, v, l, w, hd, h => depth_step x d v l w (by omega) h fun k kv' W hm hk => depth_any x d kv' k.kids W (by omega) hk
end Go.Proofs.Ytpfgidhchjcomaa
