/- The region of the law: its states, from the last to the first. (Printed by gen_r36b.py.) -/
import Derived.Test.YtpfgidhchjcomaaMeReg
namespace Go.Proofs.Ytpfgidhchjcomaa
open Go.RowKit
set_option linter.unusedVariables false
theorem lt_heap {W : World} {E : Nat} {ob : Obj} (h : W.heap[E]? = some ob) : E < W.heap.size := by
  rcases Nat.lt_or_ge E W.heap.size with h1 | h1
  · exact h1
  · rw [Array.getElem?_eq_none h1] at h; cases h
theorem keep_below {W W' : World} {E : Nat} {ob : Obj} (h : W.heap[E]? = some ob) (hb : Below W.heap.size W W') : W'.heap[E]? = some ob := (hb.block E (lt_heap h)).trans h
theorem own_below {W W' : World} {B : Nat} {T : TypeId} {v : Value} {n : Nat} {xs : List Value} (h : W.ownsRow B T 1 v n xs) (hb : Below W.heap.size W W') : W'.ownsRow B T 1 v n xs := own_grown h fun g hg => hb.block g (h.lt g hg).2
structure C36 (Q : Exit → Act → World → Prop) (T : Array Value) (w : World) (c0 c1 c2 c3 c4 c5 fv gv : Value) (O : ByteArray) (F G : List ByteArray) (bx : Nat) (nm : ByteArray) (k1 k2 k3 : Int) (its : List It) : Prop where
  sz : T.size = 183
  t11 : T[11]? = some (.pointer (some ⟨bx, 0, none⟩))
  t9 : T[9]? = some fv
  t10 : T[10]? = some gv
  t15 : T[15]? = some (.string O)
  row : w.heap[bx]? = some (.cells #[c0, c1, c2, c3, c4, c5] 32 (0, 0))
  hf : StrsX (fun _ => True) w fv F
  hg : StrsX (fun _ => True) w gv G
  hO : O.size ≤ maxLen
  lF : F.length ≤ 8
  lG : G.length ≤ 8
  res : ∀ W fv' gv', Below w.heap.size w W → StrsX (fun _ => True) W fv' (F ++ [O]) → StrsX (fun _ => True) W gv' (O :: G) → Calls Try.prog 4 #[.agg #[c0, c1, c2, c3, c4, c5], fv', gv'] W fun e w' => ∃ t, e = .returned t ∧ ∃ aa ac, t = .tuple #[.agg #[.string nm, .int .i64 k1, .int .i64 k2, .int .i64 k3, .slice aa its.length ac], .int .i64 0, .int .i64 0] ∧ ItsX 73 (fun _ => True) 60 w' (.slice aa its.length ac) its ∧ Below W.heap.size W w'
  qp : ∀ (c : List PanicEntry) (a : Act) (w : World) (d : Option Tmp) (v : Value), Q (.panic c) (a.put d v) w → Q (.panic c) a w
  qn : ∀ (tm : Array Value) (W : World) (E : Nat) (aa : Option Addr) (ac : Nat), Fr T tm (.agg #[c0, c1, c2, c3, c4, c5]) fv gv O → tm[14]? = some (.int .i64 0) → tm[23]? = some (.pointer (some ⟨E, 0, none⟩)) → W.heap[E]? = some (.cells #[.string nm, .int .i64 k1, .int .i64 k2, .int .i64 k3, .slice aa its.length ac] 35 (0, 0)) → ItsX 73 (fun b => b ≠ E) 60 W (.slice aa its.length ac) its → Below w.heap.size w W → w.heap.size ≤ E → Q .normal { tmps := tm, defers := [] } W
section
variable {Q : Exit → Act → World → Prop} {T : Array Value} {w : World} {c0 c1 c2 c3 c4 c5 fv gv : Value} {O : ByteArray} {F G : List ByteArray} {bx : Nat} {nm : ByteArray} {k1 k2 k3 : Int} {its : List It}
set_option maxRecDepth 100000 in
theorem st_51111 (C : C36 Q T w c0 c1 c2 c3 c4 c5 fv gv O F G bx nm k1 k2 k3 its) (tm : Array Value) (W : World) (fr : Fr T tm (.agg #[c0, c1, c2, c3, c4, c5]) fv gv O) (bl : Below w.heap.size w W) (Ee : Nat) (e1 : tm[23]? = some (.pointer (some ⟨Ee, 0, none⟩))) (e3 : w.heap.size ≤ Ee) (aa : Option Addr) (ac : Nat) (i2 : tm[154]? = some (.int .i64 0)) (i3 : tm[155]? = some (.int .i64 0)) (j1 : W.heap[Ee]? = some (.cells #[.string nm, .int .i64 k1, .int .i64 k2, .int .i64 k3, .slice aa its.length ac] 35 (0, 0))) (j2 : ItsX 73 (fun b => b ≠ Ee) 60 W (.slice aa its.length ac) its) :
    wpAnyH Try.prog .any ops36 Q (fun W => Below w.heap.size w W) 2 #[true, true, true, true, true, true, true, true, true, true, true, true, true, true, true, true, true, true, false, false] { tmps := tm, defers := [] } W := by
  refine wpAnyH_take (i := 18) (oi := o36_18) (v := .int .i64 0) rfl (by kernel_rfl) (by kernel_rfl) (by kernel_rfl) (fun c a w h => C.qp c a w _ _ h) (Or.inl ⟨by rfl, fun W' _ => by unfold o36_18; go_simp⟩) bl ?_
  refine wpAnyH_take (i := 19) (oi := o36_19) (v := .int .i64 0) rfl (by kernel_rfl) (by kernel_rfl) (by kernel_rfl) (fun c a w h => C.qp c a w _ _ h) (Or.inl ⟨by rfl, fun W' _ => by
    have i3' : (tm.setIfInBounds 24 (.int .i64 0))[155]? = some (.int .i64 0) := put_get i3 (by decide)
    show (execOp (Act.eval { tmps := tm.setIfInBounds 24 (.int .i64 0), defers := [] }) o36_19).run _ W' = _
    unfold o36_19
    go_simp⟩) bl ?_
  exact wpAnyH_done (by kernel_rfl) (C.qn ((tm.setIfInBounds 24 (.int .i64 0)).setIfInBounds 14 (.int .i64 0)) W Ee aa ac ((fr.put 24 _ (by decide)).put 14 _ (by decide)) (put_same (by rw [Array.size_setIfInBounds, fr.size]; decide)) (put_get (put_get e1 (by decide)) (by decide)) j1 j2 bl e3) _
set_option maxRecDepth 100000 in
theorem st_41111 (C : C36 Q T w c0 c1 c2 c3 c4 c5 fv gv O F G bx nm k1 k2 k3 its) (tm : Array Value) (W : World) (fr : Fr T tm (.agg #[c0, c1, c2, c3, c4, c5]) fv gv O) (bl : Below w.heap.size w W) (Ee : Nat) (e1 : tm[23]? = some (.pointer (some ⟨Ee, 0, none⟩))) (e2 : W.heap[Ee]? = some (.cells #[.string ⟨#[]⟩, .int .i64 0, .int .i64 0, .int .i64 0, .slice none 0 0] 35 (0, 0))) (e3 : w.heap.size ≤ Ee) (aa : Option Addr) (ac : Nat) (i1 : tm[153]? = some (.agg #[.string nm, .int .i64 k1, .int .i64 k2, .int .i64 k3, .slice aa its.length ac])) (i2 : tm[154]? = some (.int .i64 0)) (i3 : tm[155]? = some (.int .i64 0)) (i4 : ItsX 73 (fun _ => True) 60 W (.slice aa its.length ac) its) (i5 : ItsX 73 (fun b => b ≠ Ee) 60 W (.slice aa its.length ac) its) :
    wpAnyH Try.prog .any ops36 Q (fun W => Below w.heap.size w W) 3 #[true, true, true, true, true, true, true, true, true, true, true, true, true, true, true, true, true, false, false, false] { tmps := tm, defers := [] } W := by
  refine wpAnyH_ready (rs := [17]) (by kernel_rfl) (by simp) ?_
  refine AllReadyH.cons (i := 17) (o := o36_17) rfl (fun K hK => ?_) ?_
  · rw [if_pos (by rfl)]
    refine step36_17 e1 i1 e2 (fun W' j1 hx => ?_)
    have bl' : Below w.heap.size w W' := bl.trans (hx.below (fun k hk h => by omega) bl.size)
    refine hK.out _ _ bl' (fun _ => ?_)
    exact st_51111 C _ _ fr bl' Ee e1 e3 aa ac i2 i3 j1 (i5.keep fun k hk hne _ => hx.block k hk hne)
  exact AllReadyH.nil
set_option maxRecDepth 100000 in
theorem st_41110 (C : C36 Q T w c0 c1 c2 c3 c4 c5 fv gv O F G bx nm k1 k2 k3 its) (tm : Array Value) (W : World) (fr : Fr T tm (.agg #[c0, c1, c2, c3, c4, c5]) fv gv O) (bl : Below w.heap.size w W) (aa : Option Addr) (ac : Nat) (i1 : tm[153]? = some (.agg #[.string nm, .int .i64 k1, .int .i64 k2, .int .i64 k3, .slice aa its.length ac])) (i2 : tm[154]? = some (.int .i64 0)) (i3 : tm[155]? = some (.int .i64 0)) (i4 : ItsX 73 (fun _ => True) 60 W (.slice aa its.length ac) its) :
    wpAnyH Try.prog .any ops36 Q (fun W => Below w.heap.size w W) 4 #[true, true, true, true, true, true, true, true, true, true, true, true, true, true, true, true, false, false, false, false] { tmps := tm, defers := [] } W := by
  refine wpAnyH_ready (rs := [16]) (by kernel_rfl) (by simp) ?_
  refine AllReadyH.cons (i := 16) (o := o36_16) rfl (fun K hK => ?_) ?_
  · rw [if_pos (by rfl)]
    refine step36_16 ?_
    have hb : Below W.heap.size W (W.alloc (.cells #[.string ⟨#[]⟩, .int .i64 0, .int .i64 0, .int .i64 0, .slice none 0 0] 35)) := (Below.refl _ _).alloc (Nat.le_refl _) _
    have hnew := heap_alloc_new W (.cells #[.string ⟨#[]⟩, .int .i64 0, .int .i64 0, .int .i64 0, .slice none 0 0] 35)
    have bl' : Below w.heap.size w (W.alloc (.cells #[.string ⟨#[]⟩, .int .i64 0, .int .i64 0, .int .i64 0, .slice none 0 0] 35)) := bl.alloc bl.size _
    refine hK.out _ _ bl' (fun _ => ?_)
    exact st_41111 C _ _ (fr.put 23 _ (by decide)) bl' W.heap.size (put_same (by rw [fr.size]; decide)) hnew bl.size aa ac (put_get i1 (by decide)) (put_get i2 (by decide)) (put_get i3 (by decide)) (i4.later hb) ((i4.turn (y := fun b => b ≠ W.heap.size) (fun b hb _ _ => by omega)).later hb)
  exact AllReadyH.nil
set_option maxRecDepth 100000 in
theorem st_31111 (C : C36 Q T w c0 c1 c2 c3 c4 c5 fv gv O F G bx nm k1 k2 k3 its) (tm : Array Value) (W : World) (fr : Fr T tm (.agg #[c0, c1, c2, c3, c4, c5]) fv gv O) (bl : Below w.heap.size w W) (Ee : Nat) (e1 : tm[23]? = some (.pointer (some ⟨Ee, 0, none⟩))) (e2 : W.heap[Ee]? = some (.cells #[.string ⟨#[]⟩, .int .i64 0, .int .i64 0, .int .i64 0, .slice none 0 0] 35 (0, 0))) (e3 : w.heap.size ≤ Ee) (v2 : Value) (g1 : tm[147]? = some v2) (g2 : StrsX (fun _ => True) W v2 (F ++ [O])) (v3 : Value) (h1 : tm[151]? = some v3) (h2 : StrsX (fun _ => True) W v3 (O :: G)) :
    wpAnyH Try.prog .any ops36 Q (fun W => Below w.heap.size w W) 8 #[true, true, true, true, true, true, true, true, true, true, true, false, false, false, false, false, true, false, false, false] { tmps := tm, defers := [] } W := by
  refine wpAnyH_ready (rs := [11]) (by kernel_rfl) (by simp) ?_
  refine AllReadyH.cons (i := 11) (o := o36_11) rfl (fun K hK => ?_) ?_
  · rw [if_pos (by rfl)]
    refine step36_11 (R := fun t w' => ∃ aa ac, t = .tuple #[.agg #[.string nm, .int .i64 k1, .int .i64 k2, .int .i64 k3, .slice aa its.length ac], .int .i64 0, .int .i64 0] ∧ ItsX 73 (fun _ => True) 60 w' (.slice aa its.length ac) its ∧ Below W.heap.size W w') fr.x g1 h1 (C.res W v2 v3 bl g2 h2) (fun t W' hR => ?_)
    obtain ⟨aa, ac, rfl, i4, hb⟩ := hR
    have bl' : Below w.heap.size w W' := bl.trans (hb.mono bl.size)
    refine hK.out _ _ bl' (fun _ => ?_)
    have fr1 : Fr T (tm.setIfInBounds 152 (.tuple #[.agg #[.string nm, .int .i64 k1, .int .i64 k2, .int .i64 k3, .slice aa its.length ac], .int .i64 0, .int .i64 0])) (.agg #[c0, c1, c2, c3, c4, c5]) fv gv O := fr.put 152 _ (by decide)
    have p1 : (tm.setIfInBounds 152 (.tuple #[.agg #[.string nm, .int .i64 k1, .int .i64 k2, .int .i64 k3, .slice aa its.length ac], .int .i64 0, .int .i64 0]))[152]? = some (.tuple #[.agg #[.string nm, .int .i64 k1, .int .i64 k2, .int .i64 k3, .slice aa its.length ac], .int .i64 0, .int .i64 0]) := put_same (by rw [fr.size]; decide)
    refine wpAnyH_take (i := 12) (oi := o36_12) (v := (.tuple #[.agg #[.string nm, .int .i64 k1, .int .i64 k2, .int .i64 k3, .slice aa its.length ac], .int .i64 0, .int .i64 0])) rfl (by kernel_rfl) (by kernel_rfl) (by kernel_rfl) (fun c a w h => C.qp c a w _ _ h) (Or.inl ⟨by rfl, fun W2 _ => by
      show (execOp (Act.eval { tmps := (tm.setIfInBounds 152 (.tuple #[.agg #[.string nm, .int .i64 k1, .int .i64 k2, .int .i64 k3, .slice aa its.length ac], .int .i64 0, .int .i64 0])), defers := [] }) o36_12).run _ W2 = _
      generalize (tm.setIfInBounds 152 (.tuple #[.agg #[.string nm, .int .i64 k1, .int .i64 k2, .int .i64 k3, .slice aa its.length ac], .int .i64 0, .int .i64 0])) = tz at *
      unfold o36_12
      go_simp⟩) bl' ?_
    have fr2 : Fr T ((tm.setIfInBounds 152 (.tuple #[.agg #[.string nm, .int .i64 k1, .int .i64 k2, .int .i64 k3, .slice aa its.length ac], .int .i64 0, .int .i64 0])).setIfInBounds 140 (.tuple #[.agg #[.string nm, .int .i64 k1, .int .i64 k2, .int .i64 k3, .slice aa its.length ac], .int .i64 0, .int .i64 0])) (.agg #[c0, c1, c2, c3, c4, c5]) fv gv O := fr1.put 140 _ (by decide)
    have p2 : ((tm.setIfInBounds 152 (.tuple #[.agg #[.string nm, .int .i64 k1, .int .i64 k2, .int .i64 k3, .slice aa its.length ac], .int .i64 0, .int .i64 0])).setIfInBounds 140 (.tuple #[.agg #[.string nm, .int .i64 k1, .int .i64 k2, .int .i64 k3, .slice aa its.length ac], .int .i64 0, .int .i64 0]))[140]? = some (.tuple #[.agg #[.string nm, .int .i64 k1, .int .i64 k2, .int .i64 k3, .slice aa its.length ac], .int .i64 0, .int .i64 0]) := put_same (by rw [fr1.size]; decide)
    refine wpAnyH_take (i := 13) (oi := o36_13) (v := (.agg #[.string nm, .int .i64 k1, .int .i64 k2, .int .i64 k3, .slice aa its.length ac])) rfl (by kernel_rfl) (by kernel_rfl) (by kernel_rfl) (fun c a w h => C.qp c a w _ _ h) (Or.inl ⟨by rfl, fun W2 _ => by
      show (execOp (Act.eval { tmps := ((tm.setIfInBounds 152 (.tuple #[.agg #[.string nm, .int .i64 k1, .int .i64 k2, .int .i64 k3, .slice aa its.length ac], .int .i64 0, .int .i64 0])).setIfInBounds 140 (.tuple #[.agg #[.string nm, .int .i64 k1, .int .i64 k2, .int .i64 k3, .slice aa its.length ac], .int .i64 0, .int .i64 0])), defers := [] }) o36_13).run _ W2 = _
      generalize ((tm.setIfInBounds 152 (.tuple #[.agg #[.string nm, .int .i64 k1, .int .i64 k2, .int .i64 k3, .slice aa its.length ac], .int .i64 0, .int .i64 0])).setIfInBounds 140 (.tuple #[.agg #[.string nm, .int .i64 k1, .int .i64 k2, .int .i64 k3, .slice aa its.length ac], .int .i64 0, .int .i64 0])) = tz at *
      unfold o36_13
      go_simp⟩) bl' ?_
    have fr3 : Fr T (((tm.setIfInBounds 152 (.tuple #[.agg #[.string nm, .int .i64 k1, .int .i64 k2, .int .i64 k3, .slice aa its.length ac], .int .i64 0, .int .i64 0])).setIfInBounds 140 (.tuple #[.agg #[.string nm, .int .i64 k1, .int .i64 k2, .int .i64 k3, .slice aa its.length ac], .int .i64 0, .int .i64 0])).setIfInBounds 153 (.agg #[.string nm, .int .i64 k1, .int .i64 k2, .int .i64 k3, .slice aa its.length ac])) (.agg #[c0, c1, c2, c3, c4, c5]) fv gv O := fr2.put 153 _ (by decide)
    have p3 : (((tm.setIfInBounds 152 (.tuple #[.agg #[.string nm, .int .i64 k1, .int .i64 k2, .int .i64 k3, .slice aa its.length ac], .int .i64 0, .int .i64 0])).setIfInBounds 140 (.tuple #[.agg #[.string nm, .int .i64 k1, .int .i64 k2, .int .i64 k3, .slice aa its.length ac], .int .i64 0, .int .i64 0])).setIfInBounds 153 (.agg #[.string nm, .int .i64 k1, .int .i64 k2, .int .i64 k3, .slice aa its.length ac]))[140]? = some (.tuple #[.agg #[.string nm, .int .i64 k1, .int .i64 k2, .int .i64 k3, .slice aa its.length ac], .int .i64 0, .int .i64 0]) := put_get p2 (by decide)
    have q3 : (((tm.setIfInBounds 152 (.tuple #[.agg #[.string nm, .int .i64 k1, .int .i64 k2, .int .i64 k3, .slice aa its.length ac], .int .i64 0, .int .i64 0])).setIfInBounds 140 (.tuple #[.agg #[.string nm, .int .i64 k1, .int .i64 k2, .int .i64 k3, .slice aa its.length ac], .int .i64 0, .int .i64 0])).setIfInBounds 153 (.agg #[.string nm, .int .i64 k1, .int .i64 k2, .int .i64 k3, .slice aa its.length ac]))[153]? = some (.agg #[.string nm, .int .i64 k1, .int .i64 k2, .int .i64 k3, .slice aa its.length ac]) := put_same (by rw [fr2.size]; decide)
    refine wpAnyH_take (i := 14) (oi := o36_14) (v := (.int .i64 0)) rfl (by kernel_rfl) (by kernel_rfl) (by kernel_rfl) (fun c a w h => C.qp c a w _ _ h) (Or.inl ⟨by rfl, fun W2 _ => by
      show (execOp (Act.eval { tmps := (((tm.setIfInBounds 152 (.tuple #[.agg #[.string nm, .int .i64 k1, .int .i64 k2, .int .i64 k3, .slice aa its.length ac], .int .i64 0, .int .i64 0])).setIfInBounds 140 (.tuple #[.agg #[.string nm, .int .i64 k1, .int .i64 k2, .int .i64 k3, .slice aa its.length ac], .int .i64 0, .int .i64 0])).setIfInBounds 153 (.agg #[.string nm, .int .i64 k1, .int .i64 k2, .int .i64 k3, .slice aa its.length ac])), defers := [] }) o36_14).run _ W2 = _
      generalize (((tm.setIfInBounds 152 (.tuple #[.agg #[.string nm, .int .i64 k1, .int .i64 k2, .int .i64 k3, .slice aa its.length ac], .int .i64 0, .int .i64 0])).setIfInBounds 140 (.tuple #[.agg #[.string nm, .int .i64 k1, .int .i64 k2, .int .i64 k3, .slice aa its.length ac], .int .i64 0, .int .i64 0])).setIfInBounds 153 (.agg #[.string nm, .int .i64 k1, .int .i64 k2, .int .i64 k3, .slice aa its.length ac])) = tz at *
      unfold o36_14
      go_simp⟩) bl' ?_
    have fr4 : Fr T ((((tm.setIfInBounds 152 (.tuple #[.agg #[.string nm, .int .i64 k1, .int .i64 k2, .int .i64 k3, .slice aa its.length ac], .int .i64 0, .int .i64 0])).setIfInBounds 140 (.tuple #[.agg #[.string nm, .int .i64 k1, .int .i64 k2, .int .i64 k3, .slice aa its.length ac], .int .i64 0, .int .i64 0])).setIfInBounds 153 (.agg #[.string nm, .int .i64 k1, .int .i64 k2, .int .i64 k3, .slice aa its.length ac])).setIfInBounds 154 (.int .i64 0)) (.agg #[c0, c1, c2, c3, c4, c5]) fv gv O := fr3.put 154 _ (by decide)
    have p4 : ((((tm.setIfInBounds 152 (.tuple #[.agg #[.string nm, .int .i64 k1, .int .i64 k2, .int .i64 k3, .slice aa its.length ac], .int .i64 0, .int .i64 0])).setIfInBounds 140 (.tuple #[.agg #[.string nm, .int .i64 k1, .int .i64 k2, .int .i64 k3, .slice aa its.length ac], .int .i64 0, .int .i64 0])).setIfInBounds 153 (.agg #[.string nm, .int .i64 k1, .int .i64 k2, .int .i64 k3, .slice aa its.length ac])).setIfInBounds 154 (.int .i64 0))[140]? = some (.tuple #[.agg #[.string nm, .int .i64 k1, .int .i64 k2, .int .i64 k3, .slice aa its.length ac], .int .i64 0, .int .i64 0]) := put_get p3 (by decide)
    have q4 : ((((tm.setIfInBounds 152 (.tuple #[.agg #[.string nm, .int .i64 k1, .int .i64 k2, .int .i64 k3, .slice aa its.length ac], .int .i64 0, .int .i64 0])).setIfInBounds 140 (.tuple #[.agg #[.string nm, .int .i64 k1, .int .i64 k2, .int .i64 k3, .slice aa its.length ac], .int .i64 0, .int .i64 0])).setIfInBounds 153 (.agg #[.string nm, .int .i64 k1, .int .i64 k2, .int .i64 k3, .slice aa its.length ac])).setIfInBounds 154 (.int .i64 0))[154]? = some (.int .i64 0) := put_same (by rw [fr3.size]; decide)
    refine wpAnyH_take (i := 15) (oi := o36_15) (v := (.int .i64 0)) rfl (by kernel_rfl) (by kernel_rfl) (by kernel_rfl) (fun c a w h => C.qp c a w _ _ h) (Or.inl ⟨by rfl, fun W2 _ => by
      show (execOp (Act.eval { tmps := ((((tm.setIfInBounds 152 (.tuple #[.agg #[.string nm, .int .i64 k1, .int .i64 k2, .int .i64 k3, .slice aa its.length ac], .int .i64 0, .int .i64 0])).setIfInBounds 140 (.tuple #[.agg #[.string nm, .int .i64 k1, .int .i64 k2, .int .i64 k3, .slice aa its.length ac], .int .i64 0, .int .i64 0])).setIfInBounds 153 (.agg #[.string nm, .int .i64 k1, .int .i64 k2, .int .i64 k3, .slice aa its.length ac])).setIfInBounds 154 (.int .i64 0)), defers := [] }) o36_15).run _ W2 = _
      generalize ((((tm.setIfInBounds 152 (.tuple #[.agg #[.string nm, .int .i64 k1, .int .i64 k2, .int .i64 k3, .slice aa its.length ac], .int .i64 0, .int .i64 0])).setIfInBounds 140 (.tuple #[.agg #[.string nm, .int .i64 k1, .int .i64 k2, .int .i64 k3, .slice aa its.length ac], .int .i64 0, .int .i64 0])).setIfInBounds 153 (.agg #[.string nm, .int .i64 k1, .int .i64 k2, .int .i64 k3, .slice aa its.length ac])).setIfInBounds 154 (.int .i64 0)) = tz at *
      unfold o36_15
      go_simp⟩) bl' ?_
    have i5 : ItsX 73 (fun b => b ≠ Ee) 60 W' (.slice aa its.length ac) its := i4.turn fun b _ _ ht h => by
      obtain ⟨cs, f, ht⟩ := ht
      rw [h, keep_below e2 hb] at ht
      injection ht with ht
      injection ht with _ ht _
      cases ht
    exact st_41111 C _ _ (fr4.put 155 _ (by decide)) bl' Ee (put_get (put_get (put_get (put_get (put_get e1 (by decide)) (by decide)) (by decide)) (by decide)) (by decide)) (keep_below e2 hb) e3 aa ac (put_get (put_get q3 (by decide)) (by decide)) (put_get q4 (by decide)) (put_same (Nat.lt_of_lt_of_eq (show 155 < 183 by decide) fr4.size.symm)) i4 i5
  exact AllReadyH.nil
set_option maxRecDepth 100000 in
theorem st_31110 (C : C36 Q T w c0 c1 c2 c3 c4 c5 fv gv O F G bx nm k1 k2 k3 its) (tm : Array Value) (W : World) (fr : Fr T tm (.agg #[c0, c1, c2, c3, c4, c5]) fv gv O) (bl : Below w.heap.size w W) (v2 : Value) (g1 : tm[147]? = some v2) (g2 : StrsX (fun _ => True) W v2 (F ++ [O])) (v3 : Value) (h1 : tm[151]? = some v3) (h2 : StrsX (fun _ => True) W v3 (O :: G)) :
    wpAnyH Try.prog .any ops36 Q (fun W => Below w.heap.size w W) 9 #[true, true, true, true, true, true, true, true, true, true, true, false, false, false, false, false, false, false, false, false] { tmps := tm, defers := [] } W := by
  refine wpAnyH_ready (rs := [11, 16]) (by kernel_rfl) (by simp) ?_
  refine AllReadyH.cons (i := 11) (o := o36_11) rfl (fun K hK => ?_) ?_
  · rw [if_pos (by rfl)]
    refine step36_11 (R := fun t w' => ∃ aa ac, t = .tuple #[.agg #[.string nm, .int .i64 k1, .int .i64 k2, .int .i64 k3, .slice aa its.length ac], .int .i64 0, .int .i64 0] ∧ ItsX 73 (fun _ => True) 60 w' (.slice aa its.length ac) its ∧ Below W.heap.size W w') fr.x g1 h1 (C.res W v2 v3 bl g2 h2) (fun t W' hR => ?_)
    obtain ⟨aa, ac, rfl, i4, hb⟩ := hR
    have bl' : Below w.heap.size w W' := bl.trans (hb.mono bl.size)
    refine hK.out _ _ bl' (fun _ => ?_)
    have fr1 : Fr T (tm.setIfInBounds 152 (.tuple #[.agg #[.string nm, .int .i64 k1, .int .i64 k2, .int .i64 k3, .slice aa its.length ac], .int .i64 0, .int .i64 0])) (.agg #[c0, c1, c2, c3, c4, c5]) fv gv O := fr.put 152 _ (by decide)
    have p1 : (tm.setIfInBounds 152 (.tuple #[.agg #[.string nm, .int .i64 k1, .int .i64 k2, .int .i64 k3, .slice aa its.length ac], .int .i64 0, .int .i64 0]))[152]? = some (.tuple #[.agg #[.string nm, .int .i64 k1, .int .i64 k2, .int .i64 k3, .slice aa its.length ac], .int .i64 0, .int .i64 0]) := put_same (by rw [fr.size]; decide)
    refine wpAnyH_take (i := 12) (oi := o36_12) (v := (.tuple #[.agg #[.string nm, .int .i64 k1, .int .i64 k2, .int .i64 k3, .slice aa its.length ac], .int .i64 0, .int .i64 0])) rfl (by kernel_rfl) (by kernel_rfl) (by kernel_rfl) (fun c a w h => C.qp c a w _ _ h) (Or.inl ⟨by rfl, fun W2 _ => by
      show (execOp (Act.eval { tmps := (tm.setIfInBounds 152 (.tuple #[.agg #[.string nm, .int .i64 k1, .int .i64 k2, .int .i64 k3, .slice aa its.length ac], .int .i64 0, .int .i64 0])), defers := [] }) o36_12).run _ W2 = _
      generalize (tm.setIfInBounds 152 (.tuple #[.agg #[.string nm, .int .i64 k1, .int .i64 k2, .int .i64 k3, .slice aa its.length ac], .int .i64 0, .int .i64 0])) = tz at *
      unfold o36_12
      go_simp⟩) bl' ?_
    have fr2 : Fr T ((tm.setIfInBounds 152 (.tuple #[.agg #[.string nm, .int .i64 k1, .int .i64 k2, .int .i64 k3, .slice aa its.length ac], .int .i64 0, .int .i64 0])).setIfInBounds 140 (.tuple #[.agg #[.string nm, .int .i64 k1, .int .i64 k2, .int .i64 k3, .slice aa its.length ac], .int .i64 0, .int .i64 0])) (.agg #[c0, c1, c2, c3, c4, c5]) fv gv O := fr1.put 140 _ (by decide)
    have p2 : ((tm.setIfInBounds 152 (.tuple #[.agg #[.string nm, .int .i64 k1, .int .i64 k2, .int .i64 k3, .slice aa its.length ac], .int .i64 0, .int .i64 0])).setIfInBounds 140 (.tuple #[.agg #[.string nm, .int .i64 k1, .int .i64 k2, .int .i64 k3, .slice aa its.length ac], .int .i64 0, .int .i64 0]))[140]? = some (.tuple #[.agg #[.string nm, .int .i64 k1, .int .i64 k2, .int .i64 k3, .slice aa its.length ac], .int .i64 0, .int .i64 0]) := put_same (by rw [fr1.size]; decide)
    refine wpAnyH_take (i := 13) (oi := o36_13) (v := (.agg #[.string nm, .int .i64 k1, .int .i64 k2, .int .i64 k3, .slice aa its.length ac])) rfl (by kernel_rfl) (by kernel_rfl) (by kernel_rfl) (fun c a w h => C.qp c a w _ _ h) (Or.inl ⟨by rfl, fun W2 _ => by
      show (execOp (Act.eval { tmps := ((tm.setIfInBounds 152 (.tuple #[.agg #[.string nm, .int .i64 k1, .int .i64 k2, .int .i64 k3, .slice aa its.length ac], .int .i64 0, .int .i64 0])).setIfInBounds 140 (.tuple #[.agg #[.string nm, .int .i64 k1, .int .i64 k2, .int .i64 k3, .slice aa its.length ac], .int .i64 0, .int .i64 0])), defers := [] }) o36_13).run _ W2 = _
      generalize ((tm.setIfInBounds 152 (.tuple #[.agg #[.string nm, .int .i64 k1, .int .i64 k2, .int .i64 k3, .slice aa its.length ac], .int .i64 0, .int .i64 0])).setIfInBounds 140 (.tuple #[.agg #[.string nm, .int .i64 k1, .int .i64 k2, .int .i64 k3, .slice aa its.length ac], .int .i64 0, .int .i64 0])) = tz at *
      unfold o36_13
      go_simp⟩) bl' ?_
    have fr3 : Fr T (((tm.setIfInBounds 152 (.tuple #[.agg #[.string nm, .int .i64 k1, .int .i64 k2, .int .i64 k3, .slice aa its.length ac], .int .i64 0, .int .i64 0])).setIfInBounds 140 (.tuple #[.agg #[.string nm, .int .i64 k1, .int .i64 k2, .int .i64 k3, .slice aa its.length ac], .int .i64 0, .int .i64 0])).setIfInBounds 153 (.agg #[.string nm, .int .i64 k1, .int .i64 k2, .int .i64 k3, .slice aa its.length ac])) (.agg #[c0, c1, c2, c3, c4, c5]) fv gv O := fr2.put 153 _ (by decide)
    have p3 : (((tm.setIfInBounds 152 (.tuple #[.agg #[.string nm, .int .i64 k1, .int .i64 k2, .int .i64 k3, .slice aa its.length ac], .int .i64 0, .int .i64 0])).setIfInBounds 140 (.tuple #[.agg #[.string nm, .int .i64 k1, .int .i64 k2, .int .i64 k3, .slice aa its.length ac], .int .i64 0, .int .i64 0])).setIfInBounds 153 (.agg #[.string nm, .int .i64 k1, .int .i64 k2, .int .i64 k3, .slice aa its.length ac]))[140]? = some (.tuple #[.agg #[.string nm, .int .i64 k1, .int .i64 k2, .int .i64 k3, .slice aa its.length ac], .int .i64 0, .int .i64 0]) := put_get p2 (by decide)
    have q3 : (((tm.setIfInBounds 152 (.tuple #[.agg #[.string nm, .int .i64 k1, .int .i64 k2, .int .i64 k3, .slice aa its.length ac], .int .i64 0, .int .i64 0])).setIfInBounds 140 (.tuple #[.agg #[.string nm, .int .i64 k1, .int .i64 k2, .int .i64 k3, .slice aa its.length ac], .int .i64 0, .int .i64 0])).setIfInBounds 153 (.agg #[.string nm, .int .i64 k1, .int .i64 k2, .int .i64 k3, .slice aa its.length ac]))[153]? = some (.agg #[.string nm, .int .i64 k1, .int .i64 k2, .int .i64 k3, .slice aa its.length ac]) := put_same (by rw [fr2.size]; decide)
    refine wpAnyH_take (i := 14) (oi := o36_14) (v := (.int .i64 0)) rfl (by kernel_rfl) (by kernel_rfl) (by kernel_rfl) (fun c a w h => C.qp c a w _ _ h) (Or.inl ⟨by rfl, fun W2 _ => by
      show (execOp (Act.eval { tmps := (((tm.setIfInBounds 152 (.tuple #[.agg #[.string nm, .int .i64 k1, .int .i64 k2, .int .i64 k3, .slice aa its.length ac], .int .i64 0, .int .i64 0])).setIfInBounds 140 (.tuple #[.agg #[.string nm, .int .i64 k1, .int .i64 k2, .int .i64 k3, .slice aa its.length ac], .int .i64 0, .int .i64 0])).setIfInBounds 153 (.agg #[.string nm, .int .i64 k1, .int .i64 k2, .int .i64 k3, .slice aa its.length ac])), defers := [] }) o36_14).run _ W2 = _
      generalize (((tm.setIfInBounds 152 (.tuple #[.agg #[.string nm, .int .i64 k1, .int .i64 k2, .int .i64 k3, .slice aa its.length ac], .int .i64 0, .int .i64 0])).setIfInBounds 140 (.tuple #[.agg #[.string nm, .int .i64 k1, .int .i64 k2, .int .i64 k3, .slice aa its.length ac], .int .i64 0, .int .i64 0])).setIfInBounds 153 (.agg #[.string nm, .int .i64 k1, .int .i64 k2, .int .i64 k3, .slice aa its.length ac])) = tz at *
      unfold o36_14
      go_simp⟩) bl' ?_
    have fr4 : Fr T ((((tm.setIfInBounds 152 (.tuple #[.agg #[.string nm, .int .i64 k1, .int .i64 k2, .int .i64 k3, .slice aa its.length ac], .int .i64 0, .int .i64 0])).setIfInBounds 140 (.tuple #[.agg #[.string nm, .int .i64 k1, .int .i64 k2, .int .i64 k3, .slice aa its.length ac], .int .i64 0, .int .i64 0])).setIfInBounds 153 (.agg #[.string nm, .int .i64 k1, .int .i64 k2, .int .i64 k3, .slice aa its.length ac])).setIfInBounds 154 (.int .i64 0)) (.agg #[c0, c1, c2, c3, c4, c5]) fv gv O := fr3.put 154 _ (by decide)
    have p4 : ((((tm.setIfInBounds 152 (.tuple #[.agg #[.string nm, .int .i64 k1, .int .i64 k2, .int .i64 k3, .slice aa its.length ac], .int .i64 0, .int .i64 0])).setIfInBounds 140 (.tuple #[.agg #[.string nm, .int .i64 k1, .int .i64 k2, .int .i64 k3, .slice aa its.length ac], .int .i64 0, .int .i64 0])).setIfInBounds 153 (.agg #[.string nm, .int .i64 k1, .int .i64 k2, .int .i64 k3, .slice aa its.length ac])).setIfInBounds 154 (.int .i64 0))[140]? = some (.tuple #[.agg #[.string nm, .int .i64 k1, .int .i64 k2, .int .i64 k3, .slice aa its.length ac], .int .i64 0, .int .i64 0]) := put_get p3 (by decide)
    have q4 : ((((tm.setIfInBounds 152 (.tuple #[.agg #[.string nm, .int .i64 k1, .int .i64 k2, .int .i64 k3, .slice aa its.length ac], .int .i64 0, .int .i64 0])).setIfInBounds 140 (.tuple #[.agg #[.string nm, .int .i64 k1, .int .i64 k2, .int .i64 k3, .slice aa its.length ac], .int .i64 0, .int .i64 0])).setIfInBounds 153 (.agg #[.string nm, .int .i64 k1, .int .i64 k2, .int .i64 k3, .slice aa its.length ac])).setIfInBounds 154 (.int .i64 0))[154]? = some (.int .i64 0) := put_same (by rw [fr3.size]; decide)
    refine wpAnyH_take (i := 15) (oi := o36_15) (v := (.int .i64 0)) rfl (by kernel_rfl) (by kernel_rfl) (by kernel_rfl) (fun c a w h => C.qp c a w _ _ h) (Or.inl ⟨by rfl, fun W2 _ => by
      show (execOp (Act.eval { tmps := ((((tm.setIfInBounds 152 (.tuple #[.agg #[.string nm, .int .i64 k1, .int .i64 k2, .int .i64 k3, .slice aa its.length ac], .int .i64 0, .int .i64 0])).setIfInBounds 140 (.tuple #[.agg #[.string nm, .int .i64 k1, .int .i64 k2, .int .i64 k3, .slice aa its.length ac], .int .i64 0, .int .i64 0])).setIfInBounds 153 (.agg #[.string nm, .int .i64 k1, .int .i64 k2, .int .i64 k3, .slice aa its.length ac])).setIfInBounds 154 (.int .i64 0)), defers := [] }) o36_15).run _ W2 = _
      generalize ((((tm.setIfInBounds 152 (.tuple #[.agg #[.string nm, .int .i64 k1, .int .i64 k2, .int .i64 k3, .slice aa its.length ac], .int .i64 0, .int .i64 0])).setIfInBounds 140 (.tuple #[.agg #[.string nm, .int .i64 k1, .int .i64 k2, .int .i64 k3, .slice aa its.length ac], .int .i64 0, .int .i64 0])).setIfInBounds 153 (.agg #[.string nm, .int .i64 k1, .int .i64 k2, .int .i64 k3, .slice aa its.length ac])).setIfInBounds 154 (.int .i64 0)) = tz at *
      unfold o36_15
      go_simp⟩) bl' ?_
    exact st_41110 C _ _ (fr4.put 155 _ (by decide)) bl' aa ac (put_get (put_get q3 (by decide)) (by decide)) (put_get q4 (by decide)) (put_same (Nat.lt_of_lt_of_eq (show 155 < 183 by decide) fr4.size.symm)) i4
  refine AllReadyH.cons (i := 16) (o := o36_16) rfl (fun K hK => ?_) ?_
  · rw [if_pos (by rfl)]
    refine step36_16 ?_
    have hb : Below W.heap.size W (W.alloc (.cells #[.string ⟨#[]⟩, .int .i64 0, .int .i64 0, .int .i64 0, .slice none 0 0] 35)) := (Below.refl _ _).alloc (Nat.le_refl _) _
    have hnew := heap_alloc_new W (.cells #[.string ⟨#[]⟩, .int .i64 0, .int .i64 0, .int .i64 0, .slice none 0 0] 35)
    have bl' : Below w.heap.size w (W.alloc (.cells #[.string ⟨#[]⟩, .int .i64 0, .int .i64 0, .int .i64 0, .slice none 0 0] 35)) := bl.alloc bl.size _
    refine hK.out _ _ bl' (fun _ => ?_)
    exact st_31111 C _ _ (fr.put 23 _ (by decide)) bl' W.heap.size (put_same (by rw [fr.size]; decide)) hnew bl.size v2 (put_get g1 (by decide)) (g2.later hb) v3 (put_get h1 (by decide)) (h2.later hb)
  exact AllReadyH.nil
set_option maxRecDepth 100000 in
theorem st_21111 (C : C36 Q T w c0 c1 c2 c3 c4 c5 fv gv O F G bx nm k1 k2 k3 its) (tm : Array Value) (W : World) (fr : Fr T tm (.agg #[c0, c1, c2, c3, c4, c5]) fv gv O) (bl : Below w.heap.size w W) (Ed : Nat) (d1 : tm[149]? = some (.slice (some ⟨Ed, 0, none⟩) 1 1)) (d2 : W.heap[Ed]? = some (.cells #[.string O] 9 (0, 0))) (d3 : w.heap.size ≤ Ed) (Ee : Nat) (e1 : tm[23]? = some (.pointer (some ⟨Ee, 0, none⟩))) (e2 : W.heap[Ee]? = some (.cells #[.string ⟨#[]⟩, .int .i64 0, .int .i64 0, .int .i64 0, .slice none 0 0] 35 (0, 0))) (e3 : w.heap.size ≤ Ee) (v2 : Value) (g1 : tm[147]? = some v2) (g2 : StrsX (fun _ => True) W v2 (F ++ [O])) :
    wpAnyH Try.prog .any ops36 Q (fun W => Below w.heap.size w W) 9 #[true, true, true, true, true, true, true, true, true, true, false, false, false, false, false, false, true, false, false, false] { tmps := tm, defers := [] } W := by
  refine wpAnyH_ready (rs := [10]) (by kernel_rfl) (by simp) ?_
  refine AllReadyH.cons (i := 10) (o := o36_10) rfl (fun K hK => ?_) ?_
  · rw [if_pos (by rfl)]
    refine step36_10 (B := w.heap.size) d1 fr.g d2 d3 (C.hg.later bl) C.lG bl.size C.hO (fun v3 W' h2 hb => ?_)
    have bl' : Below w.heap.size w W' := bl.trans (hb.mono bl.size)
    refine hK.out _ _ bl' (fun _ => ?_)
    exact st_31111 C _ _ (fr.put 151 _ (by decide)) bl' Ee (put_get e1 (by decide)) (keep_below e2 hb) e3 v2 (put_get g1 (by decide)) (g2.later hb) v3 (put_same (by rw [fr.size]; decide)) h2
  exact AllReadyH.nil
set_option maxRecDepth 100000 in
theorem st_21110 (C : C36 Q T w c0 c1 c2 c3 c4 c5 fv gv O F G bx nm k1 k2 k3 its) (tm : Array Value) (W : World) (fr : Fr T tm (.agg #[c0, c1, c2, c3, c4, c5]) fv gv O) (bl : Below w.heap.size w W) (Ed : Nat) (d1 : tm[149]? = some (.slice (some ⟨Ed, 0, none⟩) 1 1)) (d2 : W.heap[Ed]? = some (.cells #[.string O] 9 (0, 0))) (d3 : w.heap.size ≤ Ed) (v2 : Value) (g1 : tm[147]? = some v2) (g2 : StrsX (fun _ => True) W v2 (F ++ [O])) :
    wpAnyH Try.prog .any ops36 Q (fun W => Below w.heap.size w W) 10 #[true, true, true, true, true, true, true, true, true, true, false, false, false, false, false, false, false, false, false, false] { tmps := tm, defers := [] } W := by
  refine wpAnyH_ready (rs := [10, 16]) (by kernel_rfl) (by simp) ?_
  refine AllReadyH.cons (i := 10) (o := o36_10) rfl (fun K hK => ?_) ?_
  · rw [if_pos (by rfl)]
    refine step36_10 (B := w.heap.size) d1 fr.g d2 d3 (C.hg.later bl) C.lG bl.size C.hO (fun v3 W' h2 hb => ?_)
    have bl' : Below w.heap.size w W' := bl.trans (hb.mono bl.size)
    refine hK.out _ _ bl' (fun _ => ?_)
    exact st_31110 C _ _ (fr.put 151 _ (by decide)) bl' v2 (put_get g1 (by decide)) (g2.later hb) v3 (put_same (by rw [fr.size]; decide)) h2
  refine AllReadyH.cons (i := 16) (o := o36_16) rfl (fun K hK => ?_) ?_
  · rw [if_pos (by rfl)]
    refine step36_16 ?_
    have hb : Below W.heap.size W (W.alloc (.cells #[.string ⟨#[]⟩, .int .i64 0, .int .i64 0, .int .i64 0, .slice none 0 0] 35)) := (Below.refl _ _).alloc (Nat.le_refl _) _
    have hnew := heap_alloc_new W (.cells #[.string ⟨#[]⟩, .int .i64 0, .int .i64 0, .int .i64 0, .slice none 0 0] 35)
    have bl' : Below w.heap.size w (W.alloc (.cells #[.string ⟨#[]⟩, .int .i64 0, .int .i64 0, .int .i64 0, .slice none 0 0] 35)) := bl.alloc bl.size _
    refine hK.out _ _ bl' (fun _ => ?_)
    exact st_21111 C _ _ (fr.put 23 _ (by decide)) bl' Ed (put_get d1 (by decide)) (keep_below d2 hb) d3 W.heap.size (put_same (by rw [fr.size]; decide)) hnew bl.size v2 (put_get g1 (by decide)) (g2.later hb)
  exact AllReadyH.nil
set_option maxRecDepth 100000 in
theorem st_21101 (C : C36 Q T w c0 c1 c2 c3 c4 c5 fv gv O F G bx nm k1 k2 k3 its) (tm : Array Value) (W : World) (fr : Fr T tm (.agg #[c0, c1, c2, c3, c4, c5]) fv gv O) (bl : Below w.heap.size w W) (Ee : Nat) (e1 : tm[23]? = some (.pointer (some ⟨Ee, 0, none⟩))) (e2 : W.heap[Ee]? = some (.cells #[.string ⟨#[]⟩, .int .i64 0, .int .i64 0, .int .i64 0, .slice none 0 0] 35 (0, 0))) (e3 : w.heap.size ≤ Ee) (v2 : Value) (g1 : tm[147]? = some v2) (g2 : StrsX (fun _ => True) W v2 (F ++ [O])) :
    wpAnyH Try.prog .any ops36 Q (fun W => Below w.heap.size w W) 10 #[true, true, true, true, true, true, true, true, false, true, false, false, false, false, false, false, true, false, false, false] { tmps := tm, defers := [] } W := by
  refine wpAnyH_ready (rs := [8]) (by kernel_rfl) (by simp) ?_
  refine AllReadyH.cons (i := 8) (o := o36_8) rfl (fun K hK => ?_) ?_
  · rw [if_pos (by rfl)]
    refine step36_8 fr.o2 ?_
    have hb : Below W.heap.size W (W.alloc (.cells #[.string O] 9)) := (Below.refl _ _).alloc (Nat.le_refl _) _
    have hnew := heap_alloc_new W (.cells #[.string O] 9)
    have bl' : Below w.heap.size w (W.alloc (.cells #[.string O] 9)) := bl.alloc bl.size _
    refine hK.out _ _ bl' (fun _ => ?_)
    exact st_21111 C _ _ (fr.put 149 _ (by decide)) bl' W.heap.size (put_same (by rw [fr.size]; decide)) hnew bl.size Ee (put_get e1 (by decide)) (keep_below e2 hb) e3 v2 (put_get g1 (by decide)) (g2.later hb)
  exact AllReadyH.nil
set_option maxRecDepth 100000 in
theorem st_21100 (C : C36 Q T w c0 c1 c2 c3 c4 c5 fv gv O F G bx nm k1 k2 k3 its) (tm : Array Value) (W : World) (fr : Fr T tm (.agg #[c0, c1, c2, c3, c4, c5]) fv gv O) (bl : Below w.heap.size w W) (v2 : Value) (g1 : tm[147]? = some v2) (g2 : StrsX (fun _ => True) W v2 (F ++ [O])) :
    wpAnyH Try.prog .any ops36 Q (fun W => Below w.heap.size w W) 11 #[true, true, true, true, true, true, true, true, false, true, false, false, false, false, false, false, false, false, false, false] { tmps := tm, defers := [] } W := by
  refine wpAnyH_ready (rs := [8, 16]) (by kernel_rfl) (by simp) ?_
  refine AllReadyH.cons (i := 8) (o := o36_8) rfl (fun K hK => ?_) ?_
  · rw [if_pos (by rfl)]
    refine step36_8 fr.o2 ?_
    have hb : Below W.heap.size W (W.alloc (.cells #[.string O] 9)) := (Below.refl _ _).alloc (Nat.le_refl _) _
    have hnew := heap_alloc_new W (.cells #[.string O] 9)
    have bl' : Below w.heap.size w (W.alloc (.cells #[.string O] 9)) := bl.alloc bl.size _
    refine hK.out _ _ bl' (fun _ => ?_)
    exact st_21110 C _ _ (fr.put 149 _ (by decide)) bl' W.heap.size (put_same (by rw [fr.size]; decide)) hnew bl.size v2 (put_get g1 (by decide)) (g2.later hb)
  refine AllReadyH.cons (i := 16) (o := o36_16) rfl (fun K hK => ?_) ?_
  · rw [if_pos (by rfl)]
    refine step36_16 ?_
    have hb : Below W.heap.size W (W.alloc (.cells #[.string ⟨#[]⟩, .int .i64 0, .int .i64 0, .int .i64 0, .slice none 0 0] 35)) := (Below.refl _ _).alloc (Nat.le_refl _) _
    have hnew := heap_alloc_new W (.cells #[.string ⟨#[]⟩, .int .i64 0, .int .i64 0, .int .i64 0, .slice none 0 0] 35)
    have bl' : Below w.heap.size w (W.alloc (.cells #[.string ⟨#[]⟩, .int .i64 0, .int .i64 0, .int .i64 0, .slice none 0 0] 35)) := bl.alloc bl.size _
    refine hK.out _ _ bl' (fun _ => ?_)
    exact st_21101 C _ _ (fr.put 23 _ (by decide)) bl' W.heap.size (put_same (by rw [fr.size]; decide)) hnew bl.size v2 (put_get g1 (by decide)) (g2.later hb)
  exact AllReadyH.nil
set_option maxRecDepth 100000 in
theorem st_11111 (C : C36 Q T w c0 c1 c2 c3 c4 c5 fv gv O F G bx nm k1 k2 k3 its) (tm : Array Value) (W : World) (fr : Fr T tm (.agg #[c0, c1, c2, c3, c4, c5]) fv gv O) (bl : Below w.heap.size w W) (Eb : Nat) (b1 : tm[146]? = some (.slice (some ⟨Eb, 0, none⟩) 1 1)) (b2 : W.heap[Eb]? = some (.cells #[.string O] 9 (0, 0))) (b3 : w.heap.size ≤ Eb) (Ed : Nat) (d1 : tm[149]? = some (.slice (some ⟨Ed, 0, none⟩) 1 1)) (d2 : W.heap[Ed]? = some (.cells #[.string O] 9 (0, 0))) (d3 : w.heap.size ≤ Ed) (Ee : Nat) (e1 : tm[23]? = some (.pointer (some ⟨Ee, 0, none⟩))) (e2 : W.heap[Ee]? = some (.cells #[.string ⟨#[]⟩, .int .i64 0, .int .i64 0, .int .i64 0, .slice none 0 0] 35 (0, 0))) (e3 : w.heap.size ≤ Ee) (v1 : Value) (f1 : tm[144]? = some v1) (f2 : W.ownsRow w.heap.size 9 1 v1 F.length (F.map Value.string)) (yd : v1.ownBlock ≠ some Ed) (ye : v1.ownBlock ≠ some Ee) :
    wpAnyH Try.prog .any ops36 Q (fun W => Below w.heap.size w W) 10 #[true, true, true, true, true, true, false, true, true, true, false, false, false, false, false, false, true, false, false, false] { tmps := tm, defers := [] } W := by
  refine wpAnyH_ready (rs := [6]) (by kernel_rfl) (by simp) ?_
  refine AllReadyH.cons (i := 6) (o := o36_6) rfl (fun K hK => ?_) ?_
  · rw [if_pos (by rfl)]
    have hFz : ∀ s, s ∈ F → s.size ≤ maxLen := by obtain ⟨_, _, _, _, _, _, _, hz⟩ := C.hf; exact hz
    refine step36_6 (B := w.heap.size) f1 b1 b2 f2 C.lF hFz bl.size C.hO (fun v2 W' g2 hg => ?_)
    have bl' : Below w.heap.size w W' := bl.grown hg bl.size fun g h => (f2.lt g h).1
    refine hK.out _ _ bl' (fun _ => ?_)
    exact st_21111 C _ _ (fr.put 147 _ (by decide)) bl' Ed (put_get d1 (by decide)) ((hg.block Ed (lt_heap d2) (fun h => yd h.symm)).trans d2) d3 Ee (put_get e1 (by decide)) ((hg.block Ee (lt_heap e2) (fun h => ye h.symm)).trans e2) e3 v2 (put_same (by rw [fr.size]; decide)) g2
  exact AllReadyH.nil
set_option maxRecDepth 100000 in
theorem st_11110 (C : C36 Q T w c0 c1 c2 c3 c4 c5 fv gv O F G bx nm k1 k2 k3 its) (tm : Array Value) (W : World) (fr : Fr T tm (.agg #[c0, c1, c2, c3, c4, c5]) fv gv O) (bl : Below w.heap.size w W) (Eb : Nat) (b1 : tm[146]? = some (.slice (some ⟨Eb, 0, none⟩) 1 1)) (b2 : W.heap[Eb]? = some (.cells #[.string O] 9 (0, 0))) (b3 : w.heap.size ≤ Eb) (Ed : Nat) (d1 : tm[149]? = some (.slice (some ⟨Ed, 0, none⟩) 1 1)) (d2 : W.heap[Ed]? = some (.cells #[.string O] 9 (0, 0))) (d3 : w.heap.size ≤ Ed) (v1 : Value) (f1 : tm[144]? = some v1) (f2 : W.ownsRow w.heap.size 9 1 v1 F.length (F.map Value.string)) (yd : v1.ownBlock ≠ some Ed) :
    wpAnyH Try.prog .any ops36 Q (fun W => Below w.heap.size w W) 11 #[true, true, true, true, true, true, false, true, true, true, false, false, false, false, false, false, false, false, false, false] { tmps := tm, defers := [] } W := by
  refine wpAnyH_ready (rs := [6, 16]) (by kernel_rfl) (by simp) ?_
  refine AllReadyH.cons (i := 6) (o := o36_6) rfl (fun K hK => ?_) ?_
  · rw [if_pos (by rfl)]
    have hFz : ∀ s, s ∈ F → s.size ≤ maxLen := by obtain ⟨_, _, _, _, _, _, _, hz⟩ := C.hf; exact hz
    refine step36_6 (B := w.heap.size) f1 b1 b2 f2 C.lF hFz bl.size C.hO (fun v2 W' g2 hg => ?_)
    have bl' : Below w.heap.size w W' := bl.grown hg bl.size fun g h => (f2.lt g h).1
    refine hK.out _ _ bl' (fun _ => ?_)
    exact st_21110 C _ _ (fr.put 147 _ (by decide)) bl' Ed (put_get d1 (by decide)) ((hg.block Ed (lt_heap d2) (fun h => yd h.symm)).trans d2) d3 v2 (put_same (by rw [fr.size]; decide)) g2
  refine AllReadyH.cons (i := 16) (o := o36_16) rfl (fun K hK => ?_) ?_
  · rw [if_pos (by rfl)]
    refine step36_16 ?_
    have hb : Below W.heap.size W (W.alloc (.cells #[.string ⟨#[]⟩, .int .i64 0, .int .i64 0, .int .i64 0, .slice none 0 0] 35)) := (Below.refl _ _).alloc (Nat.le_refl _) _
    have hnew := heap_alloc_new W (.cells #[.string ⟨#[]⟩, .int .i64 0, .int .i64 0, .int .i64 0, .slice none 0 0] 35)
    have bl' : Below w.heap.size w (W.alloc (.cells #[.string ⟨#[]⟩, .int .i64 0, .int .i64 0, .int .i64 0, .slice none 0 0] 35)) := bl.alloc bl.size _
    refine hK.out _ _ bl' (fun _ => ?_)
    exact st_11111 C _ _ (fr.put 23 _ (by decide)) bl' Eb (put_get b1 (by decide)) (keep_below b2 hb) b3 Ed (put_get d1 (by decide)) (keep_below d2 hb) d3 W.heap.size (put_same (by rw [fr.size]; decide)) hnew bl.size v1 (put_get f1 (by decide)) (own_below f2 hb) yd (fun h => by have := (f2.lt _ h).2; omega)
  exact AllReadyH.nil
set_option maxRecDepth 100000 in
theorem st_11101 (C : C36 Q T w c0 c1 c2 c3 c4 c5 fv gv O F G bx nm k1 k2 k3 its) (tm : Array Value) (W : World) (fr : Fr T tm (.agg #[c0, c1, c2, c3, c4, c5]) fv gv O) (bl : Below w.heap.size w W) (Eb : Nat) (b1 : tm[146]? = some (.slice (some ⟨Eb, 0, none⟩) 1 1)) (b2 : W.heap[Eb]? = some (.cells #[.string O] 9 (0, 0))) (b3 : w.heap.size ≤ Eb) (Ee : Nat) (e1 : tm[23]? = some (.pointer (some ⟨Ee, 0, none⟩))) (e2 : W.heap[Ee]? = some (.cells #[.string ⟨#[]⟩, .int .i64 0, .int .i64 0, .int .i64 0, .slice none 0 0] 35 (0, 0))) (e3 : w.heap.size ≤ Ee) (v1 : Value) (f1 : tm[144]? = some v1) (f2 : W.ownsRow w.heap.size 9 1 v1 F.length (F.map Value.string)) (ye : v1.ownBlock ≠ some Ee) :
    wpAnyH Try.prog .any ops36 Q (fun W => Below w.heap.size w W) 11 #[true, true, true, true, true, true, false, true, false, true, false, false, false, false, false, false, true, false, false, false] { tmps := tm, defers := [] } W := by
  refine wpAnyH_ready (rs := [6, 8]) (by kernel_rfl) (by simp) ?_
  refine AllReadyH.cons (i := 6) (o := o36_6) rfl (fun K hK => ?_) ?_
  · rw [if_pos (by rfl)]
    have hFz : ∀ s, s ∈ F → s.size ≤ maxLen := by obtain ⟨_, _, _, _, _, _, _, hz⟩ := C.hf; exact hz
    refine step36_6 (B := w.heap.size) f1 b1 b2 f2 C.lF hFz bl.size C.hO (fun v2 W' g2 hg => ?_)
    have bl' : Below w.heap.size w W' := bl.grown hg bl.size fun g h => (f2.lt g h).1
    refine hK.out _ _ bl' (fun _ => ?_)
    exact st_21101 C _ _ (fr.put 147 _ (by decide)) bl' Ee (put_get e1 (by decide)) ((hg.block Ee (lt_heap e2) (fun h => ye h.symm)).trans e2) e3 v2 (put_same (by rw [fr.size]; decide)) g2
  refine AllReadyH.cons (i := 8) (o := o36_8) rfl (fun K hK => ?_) ?_
  · rw [if_pos (by rfl)]
    refine step36_8 fr.o2 ?_
    have hb : Below W.heap.size W (W.alloc (.cells #[.string O] 9)) := (Below.refl _ _).alloc (Nat.le_refl _) _
    have hnew := heap_alloc_new W (.cells #[.string O] 9)
    have bl' : Below w.heap.size w (W.alloc (.cells #[.string O] 9)) := bl.alloc bl.size _
    refine hK.out _ _ bl' (fun _ => ?_)
    exact st_11111 C _ _ (fr.put 149 _ (by decide)) bl' Eb (put_get b1 (by decide)) (keep_below b2 hb) b3 W.heap.size (put_same (by rw [fr.size]; decide)) hnew bl.size Ee (put_get e1 (by decide)) (keep_below e2 hb) e3 v1 (put_get f1 (by decide)) (own_below f2 hb) (fun h => by have := (f2.lt _ h).2; omega) ye
  exact AllReadyH.nil
set_option maxRecDepth 100000 in
theorem st_11100 (C : C36 Q T w c0 c1 c2 c3 c4 c5 fv gv O F G bx nm k1 k2 k3 its) (tm : Array Value) (W : World) (fr : Fr T tm (.agg #[c0, c1, c2, c3, c4, c5]) fv gv O) (bl : Below w.heap.size w W) (Eb : Nat) (b1 : tm[146]? = some (.slice (some ⟨Eb, 0, none⟩) 1 1)) (b2 : W.heap[Eb]? = some (.cells #[.string O] 9 (0, 0))) (b3 : w.heap.size ≤ Eb) (v1 : Value) (f1 : tm[144]? = some v1) (f2 : W.ownsRow w.heap.size 9 1 v1 F.length (F.map Value.string)) :
    wpAnyH Try.prog .any ops36 Q (fun W => Below w.heap.size w W) 12 #[true, true, true, true, true, true, false, true, false, true, false, false, false, false, false, false, false, false, false, false] { tmps := tm, defers := [] } W := by
  refine wpAnyH_ready (rs := [6, 8, 16]) (by kernel_rfl) (by simp) ?_
  refine AllReadyH.cons (i := 6) (o := o36_6) rfl (fun K hK => ?_) ?_
  · rw [if_pos (by rfl)]
    have hFz : ∀ s, s ∈ F → s.size ≤ maxLen := by obtain ⟨_, _, _, _, _, _, _, hz⟩ := C.hf; exact hz
    refine step36_6 (B := w.heap.size) f1 b1 b2 f2 C.lF hFz bl.size C.hO (fun v2 W' g2 hg => ?_)
    have bl' : Below w.heap.size w W' := bl.grown hg bl.size fun g h => (f2.lt g h).1
    refine hK.out _ _ bl' (fun _ => ?_)
    exact st_21100 C _ _ (fr.put 147 _ (by decide)) bl' v2 (put_same (by rw [fr.size]; decide)) g2
  refine AllReadyH.cons (i := 8) (o := o36_8) rfl (fun K hK => ?_) ?_
  · rw [if_pos (by rfl)]
    refine step36_8 fr.o2 ?_
    have hb : Below W.heap.size W (W.alloc (.cells #[.string O] 9)) := (Below.refl _ _).alloc (Nat.le_refl _) _
    have hnew := heap_alloc_new W (.cells #[.string O] 9)
    have bl' : Below w.heap.size w (W.alloc (.cells #[.string O] 9)) := bl.alloc bl.size _
    refine hK.out _ _ bl' (fun _ => ?_)
    exact st_11110 C _ _ (fr.put 149 _ (by decide)) bl' Eb (put_get b1 (by decide)) (keep_below b2 hb) b3 W.heap.size (put_same (by rw [fr.size]; decide)) hnew bl.size v1 (put_get f1 (by decide)) (own_below f2 hb) (fun h => by have := (f2.lt _ h).2; omega)
  refine AllReadyH.cons (i := 16) (o := o36_16) rfl (fun K hK => ?_) ?_
  · rw [if_pos (by rfl)]
    refine step36_16 ?_
    have hb : Below W.heap.size W (W.alloc (.cells #[.string ⟨#[]⟩, .int .i64 0, .int .i64 0, .int .i64 0, .slice none 0 0] 35)) := (Below.refl _ _).alloc (Nat.le_refl _) _
    have hnew := heap_alloc_new W (.cells #[.string ⟨#[]⟩, .int .i64 0, .int .i64 0, .int .i64 0, .slice none 0 0] 35)
    have bl' : Below w.heap.size w (W.alloc (.cells #[.string ⟨#[]⟩, .int .i64 0, .int .i64 0, .int .i64 0, .slice none 0 0] 35)) := bl.alloc bl.size _
    refine hK.out _ _ bl' (fun _ => ?_)
    exact st_11101 C _ _ (fr.put 23 _ (by decide)) bl' Eb (put_get b1 (by decide)) (keep_below b2 hb) b3 W.heap.size (put_same (by rw [fr.size]; decide)) hnew bl.size v1 (put_get f1 (by decide)) (own_below f2 hb) (fun h => by have := (f2.lt _ h).2; omega)
  exact AllReadyH.nil
set_option maxRecDepth 100000 in
theorem st_11011 (C : C36 Q T w c0 c1 c2 c3 c4 c5 fv gv O F G bx nm k1 k2 k3 its) (tm : Array Value) (W : World) (fr : Fr T tm (.agg #[c0, c1, c2, c3, c4, c5]) fv gv O) (bl : Below w.heap.size w W) (Ed : Nat) (d1 : tm[149]? = some (.slice (some ⟨Ed, 0, none⟩) 1 1)) (d2 : W.heap[Ed]? = some (.cells #[.string O] 9 (0, 0))) (d3 : w.heap.size ≤ Ed) (Ee : Nat) (e1 : tm[23]? = some (.pointer (some ⟨Ee, 0, none⟩))) (e2 : W.heap[Ee]? = some (.cells #[.string ⟨#[]⟩, .int .i64 0, .int .i64 0, .int .i64 0, .slice none 0 0] 35 (0, 0))) (e3 : w.heap.size ≤ Ee) (v1 : Value) (f1 : tm[144]? = some v1) (f2 : W.ownsRow w.heap.size 9 1 v1 F.length (F.map Value.string)) (yd : v1.ownBlock ≠ some Ed) (ye : v1.ownBlock ≠ some Ee) :
    wpAnyH Try.prog .any ops36 Q (fun W => Below w.heap.size w W) 11 #[true, true, true, true, true, false, false, true, true, true, false, false, false, false, false, false, true, false, false, false] { tmps := tm, defers := [] } W := by
  refine wpAnyH_ready (rs := [5]) (by kernel_rfl) (by simp) ?_
  refine AllReadyH.cons (i := 5) (o := o36_5) rfl (fun K hK => ?_) ?_
  · rw [if_pos (by rfl)]
    refine step36_5 fr.o1 ?_
    have hb : Below W.heap.size W (W.alloc (.cells #[.string O] 9)) := (Below.refl _ _).alloc (Nat.le_refl _) _
    have hnew := heap_alloc_new W (.cells #[.string O] 9)
    have bl' : Below w.heap.size w (W.alloc (.cells #[.string O] 9)) := bl.alloc bl.size _
    refine hK.out _ _ bl' (fun _ => ?_)
    exact st_11111 C _ _ (fr.put 146 _ (by decide)) bl' W.heap.size (put_same (by rw [fr.size]; decide)) hnew bl.size Ed (put_get d1 (by decide)) (keep_below d2 hb) d3 Ee (put_get e1 (by decide)) (keep_below e2 hb) e3 v1 (put_get f1 (by decide)) (own_below f2 hb) yd ye
  exact AllReadyH.nil
set_option maxRecDepth 100000 in
theorem st_11010 (C : C36 Q T w c0 c1 c2 c3 c4 c5 fv gv O F G bx nm k1 k2 k3 its) (tm : Array Value) (W : World) (fr : Fr T tm (.agg #[c0, c1, c2, c3, c4, c5]) fv gv O) (bl : Below w.heap.size w W) (Ed : Nat) (d1 : tm[149]? = some (.slice (some ⟨Ed, 0, none⟩) 1 1)) (d2 : W.heap[Ed]? = some (.cells #[.string O] 9 (0, 0))) (d3 : w.heap.size ≤ Ed) (v1 : Value) (f1 : tm[144]? = some v1) (f2 : W.ownsRow w.heap.size 9 1 v1 F.length (F.map Value.string)) (yd : v1.ownBlock ≠ some Ed) :
    wpAnyH Try.prog .any ops36 Q (fun W => Below w.heap.size w W) 12 #[true, true, true, true, true, false, false, true, true, true, false, false, false, false, false, false, false, false, false, false] { tmps := tm, defers := [] } W := by
  refine wpAnyH_ready (rs := [5, 16]) (by kernel_rfl) (by simp) ?_
  refine AllReadyH.cons (i := 5) (o := o36_5) rfl (fun K hK => ?_) ?_
  · rw [if_pos (by rfl)]
    refine step36_5 fr.o1 ?_
    have hb : Below W.heap.size W (W.alloc (.cells #[.string O] 9)) := (Below.refl _ _).alloc (Nat.le_refl _) _
    have hnew := heap_alloc_new W (.cells #[.string O] 9)
    have bl' : Below w.heap.size w (W.alloc (.cells #[.string O] 9)) := bl.alloc bl.size _
    refine hK.out _ _ bl' (fun _ => ?_)
    exact st_11110 C _ _ (fr.put 146 _ (by decide)) bl' W.heap.size (put_same (by rw [fr.size]; decide)) hnew bl.size Ed (put_get d1 (by decide)) (keep_below d2 hb) d3 v1 (put_get f1 (by decide)) (own_below f2 hb) yd
  refine AllReadyH.cons (i := 16) (o := o36_16) rfl (fun K hK => ?_) ?_
  · rw [if_pos (by rfl)]
    refine step36_16 ?_
    have hb : Below W.heap.size W (W.alloc (.cells #[.string ⟨#[]⟩, .int .i64 0, .int .i64 0, .int .i64 0, .slice none 0 0] 35)) := (Below.refl _ _).alloc (Nat.le_refl _) _
    have hnew := heap_alloc_new W (.cells #[.string ⟨#[]⟩, .int .i64 0, .int .i64 0, .int .i64 0, .slice none 0 0] 35)
    have bl' : Below w.heap.size w (W.alloc (.cells #[.string ⟨#[]⟩, .int .i64 0, .int .i64 0, .int .i64 0, .slice none 0 0] 35)) := bl.alloc bl.size _
    refine hK.out _ _ bl' (fun _ => ?_)
    exact st_11011 C _ _ (fr.put 23 _ (by decide)) bl' Ed (put_get d1 (by decide)) (keep_below d2 hb) d3 W.heap.size (put_same (by rw [fr.size]; decide)) hnew bl.size v1 (put_get f1 (by decide)) (own_below f2 hb) yd (fun h => by have := (f2.lt _ h).2; omega)
  exact AllReadyH.nil
set_option maxRecDepth 100000 in
theorem st_11001 (C : C36 Q T w c0 c1 c2 c3 c4 c5 fv gv O F G bx nm k1 k2 k3 its) (tm : Array Value) (W : World) (fr : Fr T tm (.agg #[c0, c1, c2, c3, c4, c5]) fv gv O) (bl : Below w.heap.size w W) (Ee : Nat) (e1 : tm[23]? = some (.pointer (some ⟨Ee, 0, none⟩))) (e2 : W.heap[Ee]? = some (.cells #[.string ⟨#[]⟩, .int .i64 0, .int .i64 0, .int .i64 0, .slice none 0 0] 35 (0, 0))) (e3 : w.heap.size ≤ Ee) (v1 : Value) (f1 : tm[144]? = some v1) (f2 : W.ownsRow w.heap.size 9 1 v1 F.length (F.map Value.string)) (ye : v1.ownBlock ≠ some Ee) :
    wpAnyH Try.prog .any ops36 Q (fun W => Below w.heap.size w W) 12 #[true, true, true, true, true, false, false, true, false, true, false, false, false, false, false, false, true, false, false, false] { tmps := tm, defers := [] } W := by
  refine wpAnyH_ready (rs := [5, 8]) (by kernel_rfl) (by simp) ?_
  refine AllReadyH.cons (i := 5) (o := o36_5) rfl (fun K hK => ?_) ?_
  · rw [if_pos (by rfl)]
    refine step36_5 fr.o1 ?_
    have hb : Below W.heap.size W (W.alloc (.cells #[.string O] 9)) := (Below.refl _ _).alloc (Nat.le_refl _) _
    have hnew := heap_alloc_new W (.cells #[.string O] 9)
    have bl' : Below w.heap.size w (W.alloc (.cells #[.string O] 9)) := bl.alloc bl.size _
    refine hK.out _ _ bl' (fun _ => ?_)
    exact st_11101 C _ _ (fr.put 146 _ (by decide)) bl' W.heap.size (put_same (by rw [fr.size]; decide)) hnew bl.size Ee (put_get e1 (by decide)) (keep_below e2 hb) e3 v1 (put_get f1 (by decide)) (own_below f2 hb) ye
  refine AllReadyH.cons (i := 8) (o := o36_8) rfl (fun K hK => ?_) ?_
  · rw [if_pos (by rfl)]
    refine step36_8 fr.o2 ?_
    have hb : Below W.heap.size W (W.alloc (.cells #[.string O] 9)) := (Below.refl _ _).alloc (Nat.le_refl _) _
    have hnew := heap_alloc_new W (.cells #[.string O] 9)
    have bl' : Below w.heap.size w (W.alloc (.cells #[.string O] 9)) := bl.alloc bl.size _
    refine hK.out _ _ bl' (fun _ => ?_)
    exact st_11011 C _ _ (fr.put 149 _ (by decide)) bl' W.heap.size (put_same (by rw [fr.size]; decide)) hnew bl.size Ee (put_get e1 (by decide)) (keep_below e2 hb) e3 v1 (put_get f1 (by decide)) (own_below f2 hb) (fun h => by have := (f2.lt _ h).2; omega) ye
  exact AllReadyH.nil
set_option maxRecDepth 100000 in
theorem st_11000 (C : C36 Q T w c0 c1 c2 c3 c4 c5 fv gv O F G bx nm k1 k2 k3 its) (tm : Array Value) (W : World) (fr : Fr T tm (.agg #[c0, c1, c2, c3, c4, c5]) fv gv O) (bl : Below w.heap.size w W) (v1 : Value) (f1 : tm[144]? = some v1) (f2 : W.ownsRow w.heap.size 9 1 v1 F.length (F.map Value.string)) :
    wpAnyH Try.prog .any ops36 Q (fun W => Below w.heap.size w W) 13 #[true, true, true, true, true, false, false, true, false, true, false, false, false, false, false, false, false, false, false, false] { tmps := tm, defers := [] } W := by
  refine wpAnyH_ready (rs := [5, 8, 16]) (by kernel_rfl) (by simp) ?_
  refine AllReadyH.cons (i := 5) (o := o36_5) rfl (fun K hK => ?_) ?_
  · rw [if_pos (by rfl)]
    refine step36_5 fr.o1 ?_
    have hb : Below W.heap.size W (W.alloc (.cells #[.string O] 9)) := (Below.refl _ _).alloc (Nat.le_refl _) _
    have hnew := heap_alloc_new W (.cells #[.string O] 9)
    have bl' : Below w.heap.size w (W.alloc (.cells #[.string O] 9)) := bl.alloc bl.size _
    refine hK.out _ _ bl' (fun _ => ?_)
    exact st_11100 C _ _ (fr.put 146 _ (by decide)) bl' W.heap.size (put_same (by rw [fr.size]; decide)) hnew bl.size v1 (put_get f1 (by decide)) (own_below f2 hb)
  refine AllReadyH.cons (i := 8) (o := o36_8) rfl (fun K hK => ?_) ?_
  · rw [if_pos (by rfl)]
    refine step36_8 fr.o2 ?_
    have hb : Below W.heap.size W (W.alloc (.cells #[.string O] 9)) := (Below.refl _ _).alloc (Nat.le_refl _) _
    have hnew := heap_alloc_new W (.cells #[.string O] 9)
    have bl' : Below w.heap.size w (W.alloc (.cells #[.string O] 9)) := bl.alloc bl.size _
    refine hK.out _ _ bl' (fun _ => ?_)
    exact st_11010 C _ _ (fr.put 149 _ (by decide)) bl' W.heap.size (put_same (by rw [fr.size]; decide)) hnew bl.size v1 (put_get f1 (by decide)) (own_below f2 hb) (fun h => by have := (f2.lt _ h).2; omega)
  refine AllReadyH.cons (i := 16) (o := o36_16) rfl (fun K hK => ?_) ?_
  · rw [if_pos (by rfl)]
    refine step36_16 ?_
    have hb : Below W.heap.size W (W.alloc (.cells #[.string ⟨#[]⟩, .int .i64 0, .int .i64 0, .int .i64 0, .slice none 0 0] 35)) := (Below.refl _ _).alloc (Nat.le_refl _) _
    have hnew := heap_alloc_new W (.cells #[.string ⟨#[]⟩, .int .i64 0, .int .i64 0, .int .i64 0, .slice none 0 0] 35)
    have bl' : Below w.heap.size w (W.alloc (.cells #[.string ⟨#[]⟩, .int .i64 0, .int .i64 0, .int .i64 0, .slice none 0 0] 35)) := bl.alloc bl.size _
    refine hK.out _ _ bl' (fun _ => ?_)
    exact st_11001 C _ _ (fr.put 23 _ (by decide)) bl' W.heap.size (put_same (by rw [fr.size]; decide)) hnew bl.size v1 (put_get f1 (by decide)) (own_below f2 hb) (fun h => by have := (f2.lt _ h).2; omega)
  exact AllReadyH.nil
set_option maxRecDepth 100000 in
theorem st_01111 (C : C36 Q T w c0 c1 c2 c3 c4 c5 fv gv O F G bx nm k1 k2 k3 its) (tm : Array Value) (W : World) (fr : Fr T tm (.agg #[c0, c1, c2, c3, c4, c5]) fv gv O) (bl : Below w.heap.size w W) (Ea : Nat) (a1 : tm[142]? = some (.slice (some ⟨Ea, 0, none⟩) 0 0)) (a2 : W.heap[Ea]? = some (.cells #[] 9 (0, 0))) (a3 : w.heap.size ≤ Ea) (Eb : Nat) (b1 : tm[146]? = some (.slice (some ⟨Eb, 0, none⟩) 1 1)) (b2 : W.heap[Eb]? = some (.cells #[.string O] 9 (0, 0))) (b3 : w.heap.size ≤ Eb) (Ed : Nat) (d1 : tm[149]? = some (.slice (some ⟨Ed, 0, none⟩) 1 1)) (d2 : W.heap[Ed]? = some (.cells #[.string O] 9 (0, 0))) (d3 : w.heap.size ≤ Ed) (Ee : Nat) (e1 : tm[23]? = some (.pointer (some ⟨Ee, 0, none⟩))) (e2 : W.heap[Ee]? = some (.cells #[.string ⟨#[]⟩, .int .i64 0, .int .i64 0, .int .i64 0, .slice none 0 0] 35 (0, 0))) (e3 : w.heap.size ≤ Ee) (xad : Ea ≠ Ed) (xae : Ea ≠ Ee) :
    wpAnyH Try.prog .any ops36 Q (fun W => Below w.heap.size w W) 11 #[true, true, true, false, true, true, false, true, true, true, false, false, false, false, false, false, true, false, false, false] { tmps := tm, defers := [] } W := by
  refine wpAnyH_ready (rs := [3]) (by kernel_rfl) (by simp) ?_
  refine AllReadyH.cons (i := 3) (o := o36_3) rfl (fun K hK => ?_) ?_
  · rw [if_pos (by rfl)]
    refine step36_3 (B := w.heap.size) a1 fr.f a2 a3 (C.hf.later bl) C.lF bl.size (fun v1 W' f2 hb hc => ?_)
    have bl' : Below w.heap.size w W' := bl.trans (hb.mono bl.size)
    refine hK.out _ _ bl' (fun _ => ?_)
    exact st_11111 C _ _ (fr.put 144 _ (by decide)) bl' Eb (put_get b1 (by decide)) (keep_below b2 hb) b3 Ed (put_get d1 (by decide)) (keep_below d2 hb) d3 Ee (put_get e1 (by decide)) (keep_below e2 hb) e3 v1 (put_same (by rw [fr.size]; decide)) f2 (fun h => by rcases hc with hc | ⟨g, hc, hg⟩ <;> rw [hc] at h <;> injection h with h <;> have := lt_heap d2 <;> first | exact xad h | omega) (fun h => by rcases hc with hc | ⟨g, hc, hg⟩ <;> rw [hc] at h <;> injection h with h <;> have := lt_heap e2 <;> first | exact xae h | omega)
  exact AllReadyH.nil
set_option maxRecDepth 100000 in
theorem st_01110 (C : C36 Q T w c0 c1 c2 c3 c4 c5 fv gv O F G bx nm k1 k2 k3 its) (tm : Array Value) (W : World) (fr : Fr T tm (.agg #[c0, c1, c2, c3, c4, c5]) fv gv O) (bl : Below w.heap.size w W) (Ea : Nat) (a1 : tm[142]? = some (.slice (some ⟨Ea, 0, none⟩) 0 0)) (a2 : W.heap[Ea]? = some (.cells #[] 9 (0, 0))) (a3 : w.heap.size ≤ Ea) (Eb : Nat) (b1 : tm[146]? = some (.slice (some ⟨Eb, 0, none⟩) 1 1)) (b2 : W.heap[Eb]? = some (.cells #[.string O] 9 (0, 0))) (b3 : w.heap.size ≤ Eb) (Ed : Nat) (d1 : tm[149]? = some (.slice (some ⟨Ed, 0, none⟩) 1 1)) (d2 : W.heap[Ed]? = some (.cells #[.string O] 9 (0, 0))) (d3 : w.heap.size ≤ Ed) (xad : Ea ≠ Ed) :
    wpAnyH Try.prog .any ops36 Q (fun W => Below w.heap.size w W) 12 #[true, true, true, false, true, true, false, true, true, true, false, false, false, false, false, false, false, false, false, false] { tmps := tm, defers := [] } W := by
  refine wpAnyH_ready (rs := [3, 16]) (by kernel_rfl) (by simp) ?_
  refine AllReadyH.cons (i := 3) (o := o36_3) rfl (fun K hK => ?_) ?_
  · rw [if_pos (by rfl)]
    refine step36_3 (B := w.heap.size) a1 fr.f a2 a3 (C.hf.later bl) C.lF bl.size (fun v1 W' f2 hb hc => ?_)
    have bl' : Below w.heap.size w W' := bl.trans (hb.mono bl.size)
    refine hK.out _ _ bl' (fun _ => ?_)
    exact st_11110 C _ _ (fr.put 144 _ (by decide)) bl' Eb (put_get b1 (by decide)) (keep_below b2 hb) b3 Ed (put_get d1 (by decide)) (keep_below d2 hb) d3 v1 (put_same (by rw [fr.size]; decide)) f2 (fun h => by rcases hc with hc | ⟨g, hc, hg⟩ <;> rw [hc] at h <;> injection h with h <;> have := lt_heap d2 <;> first | exact xad h | omega)
  refine AllReadyH.cons (i := 16) (o := o36_16) rfl (fun K hK => ?_) ?_
  · rw [if_pos (by rfl)]
    refine step36_16 ?_
    have hb : Below W.heap.size W (W.alloc (.cells #[.string ⟨#[]⟩, .int .i64 0, .int .i64 0, .int .i64 0, .slice none 0 0] 35)) := (Below.refl _ _).alloc (Nat.le_refl _) _
    have hnew := heap_alloc_new W (.cells #[.string ⟨#[]⟩, .int .i64 0, .int .i64 0, .int .i64 0, .slice none 0 0] 35)
    have bl' : Below w.heap.size w (W.alloc (.cells #[.string ⟨#[]⟩, .int .i64 0, .int .i64 0, .int .i64 0, .slice none 0 0] 35)) := bl.alloc bl.size _
    refine hK.out _ _ bl' (fun _ => ?_)
    exact st_01111 C _ _ (fr.put 23 _ (by decide)) bl' Ea (put_get a1 (by decide)) (keep_below a2 hb) a3 Eb (put_get b1 (by decide)) (keep_below b2 hb) b3 Ed (put_get d1 (by decide)) (keep_below d2 hb) d3 W.heap.size (put_same (by rw [fr.size]; decide)) hnew bl.size xad (fun h => by have := lt_heap a2; omega)
  exact AllReadyH.nil
set_option maxRecDepth 100000 in
theorem st_01101 (C : C36 Q T w c0 c1 c2 c3 c4 c5 fv gv O F G bx nm k1 k2 k3 its) (tm : Array Value) (W : World) (fr : Fr T tm (.agg #[c0, c1, c2, c3, c4, c5]) fv gv O) (bl : Below w.heap.size w W) (Ea : Nat) (a1 : tm[142]? = some (.slice (some ⟨Ea, 0, none⟩) 0 0)) (a2 : W.heap[Ea]? = some (.cells #[] 9 (0, 0))) (a3 : w.heap.size ≤ Ea) (Eb : Nat) (b1 : tm[146]? = some (.slice (some ⟨Eb, 0, none⟩) 1 1)) (b2 : W.heap[Eb]? = some (.cells #[.string O] 9 (0, 0))) (b3 : w.heap.size ≤ Eb) (Ee : Nat) (e1 : tm[23]? = some (.pointer (some ⟨Ee, 0, none⟩))) (e2 : W.heap[Ee]? = some (.cells #[.string ⟨#[]⟩, .int .i64 0, .int .i64 0, .int .i64 0, .slice none 0 0] 35 (0, 0))) (e3 : w.heap.size ≤ Ee) (xae : Ea ≠ Ee) :
    wpAnyH Try.prog .any ops36 Q (fun W => Below w.heap.size w W) 12 #[true, true, true, false, true, true, false, true, false, true, false, false, false, false, false, false, true, false, false, false] { tmps := tm, defers := [] } W := by
  refine wpAnyH_ready (rs := [3, 8]) (by kernel_rfl) (by simp) ?_
  refine AllReadyH.cons (i := 3) (o := o36_3) rfl (fun K hK => ?_) ?_
  · rw [if_pos (by rfl)]
    refine step36_3 (B := w.heap.size) a1 fr.f a2 a3 (C.hf.later bl) C.lF bl.size (fun v1 W' f2 hb hc => ?_)
    have bl' : Below w.heap.size w W' := bl.trans (hb.mono bl.size)
    refine hK.out _ _ bl' (fun _ => ?_)
    exact st_11101 C _ _ (fr.put 144 _ (by decide)) bl' Eb (put_get b1 (by decide)) (keep_below b2 hb) b3 Ee (put_get e1 (by decide)) (keep_below e2 hb) e3 v1 (put_same (by rw [fr.size]; decide)) f2 (fun h => by rcases hc with hc | ⟨g, hc, hg⟩ <;> rw [hc] at h <;> injection h with h <;> have := lt_heap e2 <;> first | exact xae h | omega)
  refine AllReadyH.cons (i := 8) (o := o36_8) rfl (fun K hK => ?_) ?_
  · rw [if_pos (by rfl)]
    refine step36_8 fr.o2 ?_
    have hb : Below W.heap.size W (W.alloc (.cells #[.string O] 9)) := (Below.refl _ _).alloc (Nat.le_refl _) _
    have hnew := heap_alloc_new W (.cells #[.string O] 9)
    have bl' : Below w.heap.size w (W.alloc (.cells #[.string O] 9)) := bl.alloc bl.size _
    refine hK.out _ _ bl' (fun _ => ?_)
    exact st_01111 C _ _ (fr.put 149 _ (by decide)) bl' Ea (put_get a1 (by decide)) (keep_below a2 hb) a3 Eb (put_get b1 (by decide)) (keep_below b2 hb) b3 W.heap.size (put_same (by rw [fr.size]; decide)) hnew bl.size Ee (put_get e1 (by decide)) (keep_below e2 hb) e3 (fun h => by have := lt_heap a2; omega) xae
  exact AllReadyH.nil
set_option maxRecDepth 100000 in
theorem st_01100 (C : C36 Q T w c0 c1 c2 c3 c4 c5 fv gv O F G bx nm k1 k2 k3 its) (tm : Array Value) (W : World) (fr : Fr T tm (.agg #[c0, c1, c2, c3, c4, c5]) fv gv O) (bl : Below w.heap.size w W) (Ea : Nat) (a1 : tm[142]? = some (.slice (some ⟨Ea, 0, none⟩) 0 0)) (a2 : W.heap[Ea]? = some (.cells #[] 9 (0, 0))) (a3 : w.heap.size ≤ Ea) (Eb : Nat) (b1 : tm[146]? = some (.slice (some ⟨Eb, 0, none⟩) 1 1)) (b2 : W.heap[Eb]? = some (.cells #[.string O] 9 (0, 0))) (b3 : w.heap.size ≤ Eb) :
    wpAnyH Try.prog .any ops36 Q (fun W => Below w.heap.size w W) 13 #[true, true, true, false, true, true, false, true, false, true, false, false, false, false, false, false, false, false, false, false] { tmps := tm, defers := [] } W := by
  refine wpAnyH_ready (rs := [3, 8, 16]) (by kernel_rfl) (by simp) ?_
  refine AllReadyH.cons (i := 3) (o := o36_3) rfl (fun K hK => ?_) ?_
  · rw [if_pos (by rfl)]
    refine step36_3 (B := w.heap.size) a1 fr.f a2 a3 (C.hf.later bl) C.lF bl.size (fun v1 W' f2 hb hc => ?_)
    have bl' : Below w.heap.size w W' := bl.trans (hb.mono bl.size)
    refine hK.out _ _ bl' (fun _ => ?_)
    exact st_11100 C _ _ (fr.put 144 _ (by decide)) bl' Eb (put_get b1 (by decide)) (keep_below b2 hb) b3 v1 (put_same (by rw [fr.size]; decide)) f2
  refine AllReadyH.cons (i := 8) (o := o36_8) rfl (fun K hK => ?_) ?_
  · rw [if_pos (by rfl)]
    refine step36_8 fr.o2 ?_
    have hb : Below W.heap.size W (W.alloc (.cells #[.string O] 9)) := (Below.refl _ _).alloc (Nat.le_refl _) _
    have hnew := heap_alloc_new W (.cells #[.string O] 9)
    have bl' : Below w.heap.size w (W.alloc (.cells #[.string O] 9)) := bl.alloc bl.size _
    refine hK.out _ _ bl' (fun _ => ?_)
    exact st_01110 C _ _ (fr.put 149 _ (by decide)) bl' Ea (put_get a1 (by decide)) (keep_below a2 hb) a3 Eb (put_get b1 (by decide)) (keep_below b2 hb) b3 W.heap.size (put_same (by rw [fr.size]; decide)) hnew bl.size (fun h => by have := lt_heap a2; omega)
  refine AllReadyH.cons (i := 16) (o := o36_16) rfl (fun K hK => ?_) ?_
  · rw [if_pos (by rfl)]
    refine step36_16 ?_
    have hb : Below W.heap.size W (W.alloc (.cells #[.string ⟨#[]⟩, .int .i64 0, .int .i64 0, .int .i64 0, .slice none 0 0] 35)) := (Below.refl _ _).alloc (Nat.le_refl _) _
    have hnew := heap_alloc_new W (.cells #[.string ⟨#[]⟩, .int .i64 0, .int .i64 0, .int .i64 0, .slice none 0 0] 35)
    have bl' : Below w.heap.size w (W.alloc (.cells #[.string ⟨#[]⟩, .int .i64 0, .int .i64 0, .int .i64 0, .slice none 0 0] 35)) := bl.alloc bl.size _
    refine hK.out _ _ bl' (fun _ => ?_)
    exact st_01101 C _ _ (fr.put 23 _ (by decide)) bl' Ea (put_get a1 (by decide)) (keep_below a2 hb) a3 Eb (put_get b1 (by decide)) (keep_below b2 hb) b3 W.heap.size (put_same (by rw [fr.size]; decide)) hnew bl.size (fun h => by have := lt_heap a2; omega)
  exact AllReadyH.nil
set_option maxRecDepth 100000 in
theorem st_01011 (C : C36 Q T w c0 c1 c2 c3 c4 c5 fv gv O F G bx nm k1 k2 k3 its) (tm : Array Value) (W : World) (fr : Fr T tm (.agg #[c0, c1, c2, c3, c4, c5]) fv gv O) (bl : Below w.heap.size w W) (Ea : Nat) (a1 : tm[142]? = some (.slice (some ⟨Ea, 0, none⟩) 0 0)) (a2 : W.heap[Ea]? = some (.cells #[] 9 (0, 0))) (a3 : w.heap.size ≤ Ea) (Ed : Nat) (d1 : tm[149]? = some (.slice (some ⟨Ed, 0, none⟩) 1 1)) (d2 : W.heap[Ed]? = some (.cells #[.string O] 9 (0, 0))) (d3 : w.heap.size ≤ Ed) (Ee : Nat) (e1 : tm[23]? = some (.pointer (some ⟨Ee, 0, none⟩))) (e2 : W.heap[Ee]? = some (.cells #[.string ⟨#[]⟩, .int .i64 0, .int .i64 0, .int .i64 0, .slice none 0 0] 35 (0, 0))) (e3 : w.heap.size ≤ Ee) (xad : Ea ≠ Ed) (xae : Ea ≠ Ee) :
    wpAnyH Try.prog .any ops36 Q (fun W => Below w.heap.size w W) 12 #[true, true, true, false, true, false, false, true, true, true, false, false, false, false, false, false, true, false, false, false] { tmps := tm, defers := [] } W := by
  refine wpAnyH_ready (rs := [3, 5]) (by kernel_rfl) (by simp) ?_
  refine AllReadyH.cons (i := 3) (o := o36_3) rfl (fun K hK => ?_) ?_
  · rw [if_pos (by rfl)]
    refine step36_3 (B := w.heap.size) a1 fr.f a2 a3 (C.hf.later bl) C.lF bl.size (fun v1 W' f2 hb hc => ?_)
    have bl' : Below w.heap.size w W' := bl.trans (hb.mono bl.size)
    refine hK.out _ _ bl' (fun _ => ?_)
    exact st_11011 C _ _ (fr.put 144 _ (by decide)) bl' Ed (put_get d1 (by decide)) (keep_below d2 hb) d3 Ee (put_get e1 (by decide)) (keep_below e2 hb) e3 v1 (put_same (by rw [fr.size]; decide)) f2 (fun h => by rcases hc with hc | ⟨g, hc, hg⟩ <;> rw [hc] at h <;> injection h with h <;> have := lt_heap d2 <;> first | exact xad h | omega) (fun h => by rcases hc with hc | ⟨g, hc, hg⟩ <;> rw [hc] at h <;> injection h with h <;> have := lt_heap e2 <;> first | exact xae h | omega)
  refine AllReadyH.cons (i := 5) (o := o36_5) rfl (fun K hK => ?_) ?_
  · rw [if_pos (by rfl)]
    refine step36_5 fr.o1 ?_
    have hb : Below W.heap.size W (W.alloc (.cells #[.string O] 9)) := (Below.refl _ _).alloc (Nat.le_refl _) _
    have hnew := heap_alloc_new W (.cells #[.string O] 9)
    have bl' : Below w.heap.size w (W.alloc (.cells #[.string O] 9)) := bl.alloc bl.size _
    refine hK.out _ _ bl' (fun _ => ?_)
    exact st_01111 C _ _ (fr.put 146 _ (by decide)) bl' Ea (put_get a1 (by decide)) (keep_below a2 hb) a3 W.heap.size (put_same (by rw [fr.size]; decide)) hnew bl.size Ed (put_get d1 (by decide)) (keep_below d2 hb) d3 Ee (put_get e1 (by decide)) (keep_below e2 hb) e3 xad xae
  exact AllReadyH.nil
set_option maxRecDepth 100000 in
theorem st_01010 (C : C36 Q T w c0 c1 c2 c3 c4 c5 fv gv O F G bx nm k1 k2 k3 its) (tm : Array Value) (W : World) (fr : Fr T tm (.agg #[c0, c1, c2, c3, c4, c5]) fv gv O) (bl : Below w.heap.size w W) (Ea : Nat) (a1 : tm[142]? = some (.slice (some ⟨Ea, 0, none⟩) 0 0)) (a2 : W.heap[Ea]? = some (.cells #[] 9 (0, 0))) (a3 : w.heap.size ≤ Ea) (Ed : Nat) (d1 : tm[149]? = some (.slice (some ⟨Ed, 0, none⟩) 1 1)) (d2 : W.heap[Ed]? = some (.cells #[.string O] 9 (0, 0))) (d3 : w.heap.size ≤ Ed) (xad : Ea ≠ Ed) :
    wpAnyH Try.prog .any ops36 Q (fun W => Below w.heap.size w W) 13 #[true, true, true, false, true, false, false, true, true, true, false, false, false, false, false, false, false, false, false, false] { tmps := tm, defers := [] } W := by
  refine wpAnyH_ready (rs := [3, 5, 16]) (by kernel_rfl) (by simp) ?_
  refine AllReadyH.cons (i := 3) (o := o36_3) rfl (fun K hK => ?_) ?_
  · rw [if_pos (by rfl)]
    refine step36_3 (B := w.heap.size) a1 fr.f a2 a3 (C.hf.later bl) C.lF bl.size (fun v1 W' f2 hb hc => ?_)
    have bl' : Below w.heap.size w W' := bl.trans (hb.mono bl.size)
    refine hK.out _ _ bl' (fun _ => ?_)
    exact st_11010 C _ _ (fr.put 144 _ (by decide)) bl' Ed (put_get d1 (by decide)) (keep_below d2 hb) d3 v1 (put_same (by rw [fr.size]; decide)) f2 (fun h => by rcases hc with hc | ⟨g, hc, hg⟩ <;> rw [hc] at h <;> injection h with h <;> have := lt_heap d2 <;> first | exact xad h | omega)
  refine AllReadyH.cons (i := 5) (o := o36_5) rfl (fun K hK => ?_) ?_
  · rw [if_pos (by rfl)]
    refine step36_5 fr.o1 ?_
    have hb : Below W.heap.size W (W.alloc (.cells #[.string O] 9)) := (Below.refl _ _).alloc (Nat.le_refl _) _
    have hnew := heap_alloc_new W (.cells #[.string O] 9)
    have bl' : Below w.heap.size w (W.alloc (.cells #[.string O] 9)) := bl.alloc bl.size _
    refine hK.out _ _ bl' (fun _ => ?_)
    exact st_01110 C _ _ (fr.put 146 _ (by decide)) bl' Ea (put_get a1 (by decide)) (keep_below a2 hb) a3 W.heap.size (put_same (by rw [fr.size]; decide)) hnew bl.size Ed (put_get d1 (by decide)) (keep_below d2 hb) d3 xad
  refine AllReadyH.cons (i := 16) (o := o36_16) rfl (fun K hK => ?_) ?_
  · rw [if_pos (by rfl)]
    refine step36_16 ?_
    have hb : Below W.heap.size W (W.alloc (.cells #[.string ⟨#[]⟩, .int .i64 0, .int .i64 0, .int .i64 0, .slice none 0 0] 35)) := (Below.refl _ _).alloc (Nat.le_refl _) _
    have hnew := heap_alloc_new W (.cells #[.string ⟨#[]⟩, .int .i64 0, .int .i64 0, .int .i64 0, .slice none 0 0] 35)
    have bl' : Below w.heap.size w (W.alloc (.cells #[.string ⟨#[]⟩, .int .i64 0, .int .i64 0, .int .i64 0, .slice none 0 0] 35)) := bl.alloc bl.size _
    refine hK.out _ _ bl' (fun _ => ?_)
    exact st_01011 C _ _ (fr.put 23 _ (by decide)) bl' Ea (put_get a1 (by decide)) (keep_below a2 hb) a3 Ed (put_get d1 (by decide)) (keep_below d2 hb) d3 W.heap.size (put_same (by rw [fr.size]; decide)) hnew bl.size xad (fun h => by have := lt_heap a2; omega)
  exact AllReadyH.nil
set_option maxRecDepth 100000 in
theorem st_01001 (C : C36 Q T w c0 c1 c2 c3 c4 c5 fv gv O F G bx nm k1 k2 k3 its) (tm : Array Value) (W : World) (fr : Fr T tm (.agg #[c0, c1, c2, c3, c4, c5]) fv gv O) (bl : Below w.heap.size w W) (Ea : Nat) (a1 : tm[142]? = some (.slice (some ⟨Ea, 0, none⟩) 0 0)) (a2 : W.heap[Ea]? = some (.cells #[] 9 (0, 0))) (a3 : w.heap.size ≤ Ea) (Ee : Nat) (e1 : tm[23]? = some (.pointer (some ⟨Ee, 0, none⟩))) (e2 : W.heap[Ee]? = some (.cells #[.string ⟨#[]⟩, .int .i64 0, .int .i64 0, .int .i64 0, .slice none 0 0] 35 (0, 0))) (e3 : w.heap.size ≤ Ee) (xae : Ea ≠ Ee) :
    wpAnyH Try.prog .any ops36 Q (fun W => Below w.heap.size w W) 13 #[true, true, true, false, true, false, false, true, false, true, false, false, false, false, false, false, true, false, false, false] { tmps := tm, defers := [] } W := by
  refine wpAnyH_ready (rs := [3, 5, 8]) (by kernel_rfl) (by simp) ?_
  refine AllReadyH.cons (i := 3) (o := o36_3) rfl (fun K hK => ?_) ?_
  · rw [if_pos (by rfl)]
    refine step36_3 (B := w.heap.size) a1 fr.f a2 a3 (C.hf.later bl) C.lF bl.size (fun v1 W' f2 hb hc => ?_)
    have bl' : Below w.heap.size w W' := bl.trans (hb.mono bl.size)
    refine hK.out _ _ bl' (fun _ => ?_)
    exact st_11001 C _ _ (fr.put 144 _ (by decide)) bl' Ee (put_get e1 (by decide)) (keep_below e2 hb) e3 v1 (put_same (by rw [fr.size]; decide)) f2 (fun h => by rcases hc with hc | ⟨g, hc, hg⟩ <;> rw [hc] at h <;> injection h with h <;> have := lt_heap e2 <;> first | exact xae h | omega)
  refine AllReadyH.cons (i := 5) (o := o36_5) rfl (fun K hK => ?_) ?_
  · rw [if_pos (by rfl)]
    refine step36_5 fr.o1 ?_
    have hb : Below W.heap.size W (W.alloc (.cells #[.string O] 9)) := (Below.refl _ _).alloc (Nat.le_refl _) _
    have hnew := heap_alloc_new W (.cells #[.string O] 9)
    have bl' : Below w.heap.size w (W.alloc (.cells #[.string O] 9)) := bl.alloc bl.size _
    refine hK.out _ _ bl' (fun _ => ?_)
    exact st_01101 C _ _ (fr.put 146 _ (by decide)) bl' Ea (put_get a1 (by decide)) (keep_below a2 hb) a3 W.heap.size (put_same (by rw [fr.size]; decide)) hnew bl.size Ee (put_get e1 (by decide)) (keep_below e2 hb) e3 xae
  refine AllReadyH.cons (i := 8) (o := o36_8) rfl (fun K hK => ?_) ?_
  · rw [if_pos (by rfl)]
    refine step36_8 fr.o2 ?_
    have hb : Below W.heap.size W (W.alloc (.cells #[.string O] 9)) := (Below.refl _ _).alloc (Nat.le_refl _) _
    have hnew := heap_alloc_new W (.cells #[.string O] 9)
    have bl' : Below w.heap.size w (W.alloc (.cells #[.string O] 9)) := bl.alloc bl.size _
    refine hK.out _ _ bl' (fun _ => ?_)
    exact st_01011 C _ _ (fr.put 149 _ (by decide)) bl' Ea (put_get a1 (by decide)) (keep_below a2 hb) a3 W.heap.size (put_same (by rw [fr.size]; decide)) hnew bl.size Ee (put_get e1 (by decide)) (keep_below e2 hb) e3 (fun h => by have := lt_heap a2; omega) xae
  exact AllReadyH.nil
set_option maxRecDepth 100000 in
theorem st_01000 (C : C36 Q T w c0 c1 c2 c3 c4 c5 fv gv O F G bx nm k1 k2 k3 its) (tm : Array Value) (W : World) (fr : Fr T tm (.agg #[c0, c1, c2, c3, c4, c5]) fv gv O) (bl : Below w.heap.size w W) (Ea : Nat) (a1 : tm[142]? = some (.slice (some ⟨Ea, 0, none⟩) 0 0)) (a2 : W.heap[Ea]? = some (.cells #[] 9 (0, 0))) (a3 : w.heap.size ≤ Ea) :
    wpAnyH Try.prog .any ops36 Q (fun W => Below w.heap.size w W) 14 #[true, true, true, false, true, false, false, true, false, true, false, false, false, false, false, false, false, false, false, false] { tmps := tm, defers := [] } W := by
  refine wpAnyH_ready (rs := [3, 5, 8, 16]) (by kernel_rfl) (by simp) ?_
  refine AllReadyH.cons (i := 3) (o := o36_3) rfl (fun K hK => ?_) ?_
  · rw [if_pos (by rfl)]
    refine step36_3 (B := w.heap.size) a1 fr.f a2 a3 (C.hf.later bl) C.lF bl.size (fun v1 W' f2 hb hc => ?_)
    have bl' : Below w.heap.size w W' := bl.trans (hb.mono bl.size)
    refine hK.out _ _ bl' (fun _ => ?_)
    exact st_11000 C _ _ (fr.put 144 _ (by decide)) bl' v1 (put_same (by rw [fr.size]; decide)) f2
  refine AllReadyH.cons (i := 5) (o := o36_5) rfl (fun K hK => ?_) ?_
  · rw [if_pos (by rfl)]
    refine step36_5 fr.o1 ?_
    have hb : Below W.heap.size W (W.alloc (.cells #[.string O] 9)) := (Below.refl _ _).alloc (Nat.le_refl _) _
    have hnew := heap_alloc_new W (.cells #[.string O] 9)
    have bl' : Below w.heap.size w (W.alloc (.cells #[.string O] 9)) := bl.alloc bl.size _
    refine hK.out _ _ bl' (fun _ => ?_)
    exact st_01100 C _ _ (fr.put 146 _ (by decide)) bl' Ea (put_get a1 (by decide)) (keep_below a2 hb) a3 W.heap.size (put_same (by rw [fr.size]; decide)) hnew bl.size
  refine AllReadyH.cons (i := 8) (o := o36_8) rfl (fun K hK => ?_) ?_
  · rw [if_pos (by rfl)]
    refine step36_8 fr.o2 ?_
    have hb : Below W.heap.size W (W.alloc (.cells #[.string O] 9)) := (Below.refl _ _).alloc (Nat.le_refl _) _
    have hnew := heap_alloc_new W (.cells #[.string O] 9)
    have bl' : Below w.heap.size w (W.alloc (.cells #[.string O] 9)) := bl.alloc bl.size _
    refine hK.out _ _ bl' (fun _ => ?_)
    exact st_01010 C _ _ (fr.put 149 _ (by decide)) bl' Ea (put_get a1 (by decide)) (keep_below a2 hb) a3 W.heap.size (put_same (by rw [fr.size]; decide)) hnew bl.size (fun h => by have := lt_heap a2; omega)
  refine AllReadyH.cons (i := 16) (o := o36_16) rfl (fun K hK => ?_) ?_
  · rw [if_pos (by rfl)]
    refine step36_16 ?_
    have hb : Below W.heap.size W (W.alloc (.cells #[.string ⟨#[]⟩, .int .i64 0, .int .i64 0, .int .i64 0, .slice none 0 0] 35)) := (Below.refl _ _).alloc (Nat.le_refl _) _
    have hnew := heap_alloc_new W (.cells #[.string ⟨#[]⟩, .int .i64 0, .int .i64 0, .int .i64 0, .slice none 0 0] 35)
    have bl' : Below w.heap.size w (W.alloc (.cells #[.string ⟨#[]⟩, .int .i64 0, .int .i64 0, .int .i64 0, .slice none 0 0] 35)) := bl.alloc bl.size _
    refine hK.out _ _ bl' (fun _ => ?_)
    exact st_01001 C _ _ (fr.put 23 _ (by decide)) bl' Ea (put_get a1 (by decide)) (keep_below a2 hb) a3 W.heap.size (put_same (by rw [fr.size]; decide)) hnew bl.size (fun h => by have := lt_heap a2; omega)
  exact AllReadyH.nil
set_option maxRecDepth 100000 in
theorem st_00111 (C : C36 Q T w c0 c1 c2 c3 c4 c5 fv gv O F G bx nm k1 k2 k3 its) (tm : Array Value) (W : World) (fr : Fr T tm (.agg #[c0, c1, c2, c3, c4, c5]) fv gv O) (bl : Below w.heap.size w W) (Eb : Nat) (b1 : tm[146]? = some (.slice (some ⟨Eb, 0, none⟩) 1 1)) (b2 : W.heap[Eb]? = some (.cells #[.string O] 9 (0, 0))) (b3 : w.heap.size ≤ Eb) (Ed : Nat) (d1 : tm[149]? = some (.slice (some ⟨Ed, 0, none⟩) 1 1)) (d2 : W.heap[Ed]? = some (.cells #[.string O] 9 (0, 0))) (d3 : w.heap.size ≤ Ed) (Ee : Nat) (e1 : tm[23]? = some (.pointer (some ⟨Ee, 0, none⟩))) (e2 : W.heap[Ee]? = some (.cells #[.string ⟨#[]⟩, .int .i64 0, .int .i64 0, .int .i64 0, .slice none 0 0] 35 (0, 0))) (e3 : w.heap.size ≤ Ee) :
    wpAnyH Try.prog .any ops36 Q (fun W => Below w.heap.size w W) 12 #[true, false, true, false, true, true, false, true, true, true, false, false, false, false, false, false, true, false, false, false] { tmps := tm, defers := [] } W := by
  refine wpAnyH_ready (rs := [1]) (by kernel_rfl) (by simp) ?_
  refine AllReadyH.cons (i := 1) (o := o36_1) rfl (fun K hK => ?_) ?_
  · rw [if_pos (by rfl)]
    refine step36_1 ?_
    have hb : Below W.heap.size W (W.alloc (.cells #[] 9)) := (Below.refl _ _).alloc (Nat.le_refl _) _
    have hnew := heap_alloc_new W (.cells #[] 9)
    have bl' : Below w.heap.size w (W.alloc (.cells #[] 9)) := bl.alloc bl.size _
    refine hK.out _ _ bl' (fun _ => ?_)
    exact st_01111 C _ _ (fr.put 142 _ (by decide)) bl' W.heap.size (put_same (by rw [fr.size]; decide)) hnew bl.size Eb (put_get b1 (by decide)) (keep_below b2 hb) b3 Ed (put_get d1 (by decide)) (keep_below d2 hb) d3 Ee (put_get e1 (by decide)) (keep_below e2 hb) e3 (fun h => by have := lt_heap d2; omega) (fun h => by have := lt_heap e2; omega)
  exact AllReadyH.nil
set_option maxRecDepth 100000 in
theorem st_00110 (C : C36 Q T w c0 c1 c2 c3 c4 c5 fv gv O F G bx nm k1 k2 k3 its) (tm : Array Value) (W : World) (fr : Fr T tm (.agg #[c0, c1, c2, c3, c4, c5]) fv gv O) (bl : Below w.heap.size w W) (Eb : Nat) (b1 : tm[146]? = some (.slice (some ⟨Eb, 0, none⟩) 1 1)) (b2 : W.heap[Eb]? = some (.cells #[.string O] 9 (0, 0))) (b3 : w.heap.size ≤ Eb) (Ed : Nat) (d1 : tm[149]? = some (.slice (some ⟨Ed, 0, none⟩) 1 1)) (d2 : W.heap[Ed]? = some (.cells #[.string O] 9 (0, 0))) (d3 : w.heap.size ≤ Ed) :
    wpAnyH Try.prog .any ops36 Q (fun W => Below w.heap.size w W) 13 #[true, false, true, false, true, true, false, true, true, true, false, false, false, false, false, false, false, false, false, false] { tmps := tm, defers := [] } W := by
  refine wpAnyH_ready (rs := [1, 16]) (by kernel_rfl) (by simp) ?_
  refine AllReadyH.cons (i := 1) (o := o36_1) rfl (fun K hK => ?_) ?_
  · rw [if_pos (by rfl)]
    refine step36_1 ?_
    have hb : Below W.heap.size W (W.alloc (.cells #[] 9)) := (Below.refl _ _).alloc (Nat.le_refl _) _
    have hnew := heap_alloc_new W (.cells #[] 9)
    have bl' : Below w.heap.size w (W.alloc (.cells #[] 9)) := bl.alloc bl.size _
    refine hK.out _ _ bl' (fun _ => ?_)
    exact st_01110 C _ _ (fr.put 142 _ (by decide)) bl' W.heap.size (put_same (by rw [fr.size]; decide)) hnew bl.size Eb (put_get b1 (by decide)) (keep_below b2 hb) b3 Ed (put_get d1 (by decide)) (keep_below d2 hb) d3 (fun h => by have := lt_heap d2; omega)
  refine AllReadyH.cons (i := 16) (o := o36_16) rfl (fun K hK => ?_) ?_
  · rw [if_pos (by rfl)]
    refine step36_16 ?_
    have hb : Below W.heap.size W (W.alloc (.cells #[.string ⟨#[]⟩, .int .i64 0, .int .i64 0, .int .i64 0, .slice none 0 0] 35)) := (Below.refl _ _).alloc (Nat.le_refl _) _
    have hnew := heap_alloc_new W (.cells #[.string ⟨#[]⟩, .int .i64 0, .int .i64 0, .int .i64 0, .slice none 0 0] 35)
    have bl' : Below w.heap.size w (W.alloc (.cells #[.string ⟨#[]⟩, .int .i64 0, .int .i64 0, .int .i64 0, .slice none 0 0] 35)) := bl.alloc bl.size _
    refine hK.out _ _ bl' (fun _ => ?_)
    exact st_00111 C _ _ (fr.put 23 _ (by decide)) bl' Eb (put_get b1 (by decide)) (keep_below b2 hb) b3 Ed (put_get d1 (by decide)) (keep_below d2 hb) d3 W.heap.size (put_same (by rw [fr.size]; decide)) hnew bl.size
  exact AllReadyH.nil
set_option maxRecDepth 100000 in
theorem st_00101 (C : C36 Q T w c0 c1 c2 c3 c4 c5 fv gv O F G bx nm k1 k2 k3 its) (tm : Array Value) (W : World) (fr : Fr T tm (.agg #[c0, c1, c2, c3, c4, c5]) fv gv O) (bl : Below w.heap.size w W) (Eb : Nat) (b1 : tm[146]? = some (.slice (some ⟨Eb, 0, none⟩) 1 1)) (b2 : W.heap[Eb]? = some (.cells #[.string O] 9 (0, 0))) (b3 : w.heap.size ≤ Eb) (Ee : Nat) (e1 : tm[23]? = some (.pointer (some ⟨Ee, 0, none⟩))) (e2 : W.heap[Ee]? = some (.cells #[.string ⟨#[]⟩, .int .i64 0, .int .i64 0, .int .i64 0, .slice none 0 0] 35 (0, 0))) (e3 : w.heap.size ≤ Ee) :
    wpAnyH Try.prog .any ops36 Q (fun W => Below w.heap.size w W) 13 #[true, false, true, false, true, true, false, true, false, true, false, false, false, false, false, false, true, false, false, false] { tmps := tm, defers := [] } W := by
  refine wpAnyH_ready (rs := [1, 8]) (by kernel_rfl) (by simp) ?_
  refine AllReadyH.cons (i := 1) (o := o36_1) rfl (fun K hK => ?_) ?_
  · rw [if_pos (by rfl)]
    refine step36_1 ?_
    have hb : Below W.heap.size W (W.alloc (.cells #[] 9)) := (Below.refl _ _).alloc (Nat.le_refl _) _
    have hnew := heap_alloc_new W (.cells #[] 9)
    have bl' : Below w.heap.size w (W.alloc (.cells #[] 9)) := bl.alloc bl.size _
    refine hK.out _ _ bl' (fun _ => ?_)
    exact st_01101 C _ _ (fr.put 142 _ (by decide)) bl' W.heap.size (put_same (by rw [fr.size]; decide)) hnew bl.size Eb (put_get b1 (by decide)) (keep_below b2 hb) b3 Ee (put_get e1 (by decide)) (keep_below e2 hb) e3 (fun h => by have := lt_heap e2; omega)
  refine AllReadyH.cons (i := 8) (o := o36_8) rfl (fun K hK => ?_) ?_
  · rw [if_pos (by rfl)]
    refine step36_8 fr.o2 ?_
    have hb : Below W.heap.size W (W.alloc (.cells #[.string O] 9)) := (Below.refl _ _).alloc (Nat.le_refl _) _
    have hnew := heap_alloc_new W (.cells #[.string O] 9)
    have bl' : Below w.heap.size w (W.alloc (.cells #[.string O] 9)) := bl.alloc bl.size _
    refine hK.out _ _ bl' (fun _ => ?_)
    exact st_00111 C _ _ (fr.put 149 _ (by decide)) bl' Eb (put_get b1 (by decide)) (keep_below b2 hb) b3 W.heap.size (put_same (by rw [fr.size]; decide)) hnew bl.size Ee (put_get e1 (by decide)) (keep_below e2 hb) e3
  exact AllReadyH.nil
set_option maxRecDepth 100000 in
theorem st_00100 (C : C36 Q T w c0 c1 c2 c3 c4 c5 fv gv O F G bx nm k1 k2 k3 its) (tm : Array Value) (W : World) (fr : Fr T tm (.agg #[c0, c1, c2, c3, c4, c5]) fv gv O) (bl : Below w.heap.size w W) (Eb : Nat) (b1 : tm[146]? = some (.slice (some ⟨Eb, 0, none⟩) 1 1)) (b2 : W.heap[Eb]? = some (.cells #[.string O] 9 (0, 0))) (b3 : w.heap.size ≤ Eb) :
    wpAnyH Try.prog .any ops36 Q (fun W => Below w.heap.size w W) 14 #[true, false, true, false, true, true, false, true, false, true, false, false, false, false, false, false, false, false, false, false] { tmps := tm, defers := [] } W := by
  refine wpAnyH_ready (rs := [1, 8, 16]) (by kernel_rfl) (by simp) ?_
  refine AllReadyH.cons (i := 1) (o := o36_1) rfl (fun K hK => ?_) ?_
  · rw [if_pos (by rfl)]
    refine step36_1 ?_
    have hb : Below W.heap.size W (W.alloc (.cells #[] 9)) := (Below.refl _ _).alloc (Nat.le_refl _) _
    have hnew := heap_alloc_new W (.cells #[] 9)
    have bl' : Below w.heap.size w (W.alloc (.cells #[] 9)) := bl.alloc bl.size _
    refine hK.out _ _ bl' (fun _ => ?_)
    exact st_01100 C _ _ (fr.put 142 _ (by decide)) bl' W.heap.size (put_same (by rw [fr.size]; decide)) hnew bl.size Eb (put_get b1 (by decide)) (keep_below b2 hb) b3
  refine AllReadyH.cons (i := 8) (o := o36_8) rfl (fun K hK => ?_) ?_
  · rw [if_pos (by rfl)]
    refine step36_8 fr.o2 ?_
    have hb : Below W.heap.size W (W.alloc (.cells #[.string O] 9)) := (Below.refl _ _).alloc (Nat.le_refl _) _
    have hnew := heap_alloc_new W (.cells #[.string O] 9)
    have bl' : Below w.heap.size w (W.alloc (.cells #[.string O] 9)) := bl.alloc bl.size _
    refine hK.out _ _ bl' (fun _ => ?_)
    exact st_00110 C _ _ (fr.put 149 _ (by decide)) bl' Eb (put_get b1 (by decide)) (keep_below b2 hb) b3 W.heap.size (put_same (by rw [fr.size]; decide)) hnew bl.size
  refine AllReadyH.cons (i := 16) (o := o36_16) rfl (fun K hK => ?_) ?_
  · rw [if_pos (by rfl)]
    refine step36_16 ?_
    have hb : Below W.heap.size W (W.alloc (.cells #[.string ⟨#[]⟩, .int .i64 0, .int .i64 0, .int .i64 0, .slice none 0 0] 35)) := (Below.refl _ _).alloc (Nat.le_refl _) _
    have hnew := heap_alloc_new W (.cells #[.string ⟨#[]⟩, .int .i64 0, .int .i64 0, .int .i64 0, .slice none 0 0] 35)
    have bl' : Below w.heap.size w (W.alloc (.cells #[.string ⟨#[]⟩, .int .i64 0, .int .i64 0, .int .i64 0, .slice none 0 0] 35)) := bl.alloc bl.size _
    refine hK.out _ _ bl' (fun _ => ?_)
    exact st_00101 C _ _ (fr.put 23 _ (by decide)) bl' Eb (put_get b1 (by decide)) (keep_below b2 hb) b3 W.heap.size (put_same (by rw [fr.size]; decide)) hnew bl.size
  exact AllReadyH.nil
set_option maxRecDepth 100000 in
theorem st_00011 (C : C36 Q T w c0 c1 c2 c3 c4 c5 fv gv O F G bx nm k1 k2 k3 its) (tm : Array Value) (W : World) (fr : Fr T tm (.agg #[c0, c1, c2, c3, c4, c5]) fv gv O) (bl : Below w.heap.size w W) (Ed : Nat) (d1 : tm[149]? = some (.slice (some ⟨Ed, 0, none⟩) 1 1)) (d2 : W.heap[Ed]? = some (.cells #[.string O] 9 (0, 0))) (d3 : w.heap.size ≤ Ed) (Ee : Nat) (e1 : tm[23]? = some (.pointer (some ⟨Ee, 0, none⟩))) (e2 : W.heap[Ee]? = some (.cells #[.string ⟨#[]⟩, .int .i64 0, .int .i64 0, .int .i64 0, .slice none 0 0] 35 (0, 0))) (e3 : w.heap.size ≤ Ee) :
    wpAnyH Try.prog .any ops36 Q (fun W => Below w.heap.size w W) 13 #[true, false, true, false, true, false, false, true, true, true, false, false, false, false, false, false, true, false, false, false] { tmps := tm, defers := [] } W := by
  refine wpAnyH_ready (rs := [1, 5]) (by kernel_rfl) (by simp) ?_
  refine AllReadyH.cons (i := 1) (o := o36_1) rfl (fun K hK => ?_) ?_
  · rw [if_pos (by rfl)]
    refine step36_1 ?_
    have hb : Below W.heap.size W (W.alloc (.cells #[] 9)) := (Below.refl _ _).alloc (Nat.le_refl _) _
    have hnew := heap_alloc_new W (.cells #[] 9)
    have bl' : Below w.heap.size w (W.alloc (.cells #[] 9)) := bl.alloc bl.size _
    refine hK.out _ _ bl' (fun _ => ?_)
    exact st_01011 C _ _ (fr.put 142 _ (by decide)) bl' W.heap.size (put_same (by rw [fr.size]; decide)) hnew bl.size Ed (put_get d1 (by decide)) (keep_below d2 hb) d3 Ee (put_get e1 (by decide)) (keep_below e2 hb) e3 (fun h => by have := lt_heap d2; omega) (fun h => by have := lt_heap e2; omega)
  refine AllReadyH.cons (i := 5) (o := o36_5) rfl (fun K hK => ?_) ?_
  · rw [if_pos (by rfl)]
    refine step36_5 fr.o1 ?_
    have hb : Below W.heap.size W (W.alloc (.cells #[.string O] 9)) := (Below.refl _ _).alloc (Nat.le_refl _) _
    have hnew := heap_alloc_new W (.cells #[.string O] 9)
    have bl' : Below w.heap.size w (W.alloc (.cells #[.string O] 9)) := bl.alloc bl.size _
    refine hK.out _ _ bl' (fun _ => ?_)
    exact st_00111 C _ _ (fr.put 146 _ (by decide)) bl' W.heap.size (put_same (by rw [fr.size]; decide)) hnew bl.size Ed (put_get d1 (by decide)) (keep_below d2 hb) d3 Ee (put_get e1 (by decide)) (keep_below e2 hb) e3
  exact AllReadyH.nil
set_option maxRecDepth 100000 in
theorem st_00010 (C : C36 Q T w c0 c1 c2 c3 c4 c5 fv gv O F G bx nm k1 k2 k3 its) (tm : Array Value) (W : World) (fr : Fr T tm (.agg #[c0, c1, c2, c3, c4, c5]) fv gv O) (bl : Below w.heap.size w W) (Ed : Nat) (d1 : tm[149]? = some (.slice (some ⟨Ed, 0, none⟩) 1 1)) (d2 : W.heap[Ed]? = some (.cells #[.string O] 9 (0, 0))) (d3 : w.heap.size ≤ Ed) :
    wpAnyH Try.prog .any ops36 Q (fun W => Below w.heap.size w W) 14 #[true, false, true, false, true, false, false, true, true, true, false, false, false, false, false, false, false, false, false, false] { tmps := tm, defers := [] } W := by
  refine wpAnyH_ready (rs := [1, 5, 16]) (by kernel_rfl) (by simp) ?_
  refine AllReadyH.cons (i := 1) (o := o36_1) rfl (fun K hK => ?_) ?_
  · rw [if_pos (by rfl)]
    refine step36_1 ?_
    have hb : Below W.heap.size W (W.alloc (.cells #[] 9)) := (Below.refl _ _).alloc (Nat.le_refl _) _
    have hnew := heap_alloc_new W (.cells #[] 9)
    have bl' : Below w.heap.size w (W.alloc (.cells #[] 9)) := bl.alloc bl.size _
    refine hK.out _ _ bl' (fun _ => ?_)
    exact st_01010 C _ _ (fr.put 142 _ (by decide)) bl' W.heap.size (put_same (by rw [fr.size]; decide)) hnew bl.size Ed (put_get d1 (by decide)) (keep_below d2 hb) d3 (fun h => by have := lt_heap d2; omega)
  refine AllReadyH.cons (i := 5) (o := o36_5) rfl (fun K hK => ?_) ?_
  · rw [if_pos (by rfl)]
    refine step36_5 fr.o1 ?_
    have hb : Below W.heap.size W (W.alloc (.cells #[.string O] 9)) := (Below.refl _ _).alloc (Nat.le_refl _) _
    have hnew := heap_alloc_new W (.cells #[.string O] 9)
    have bl' : Below w.heap.size w (W.alloc (.cells #[.string O] 9)) := bl.alloc bl.size _
    refine hK.out _ _ bl' (fun _ => ?_)
    exact st_00110 C _ _ (fr.put 146 _ (by decide)) bl' W.heap.size (put_same (by rw [fr.size]; decide)) hnew bl.size Ed (put_get d1 (by decide)) (keep_below d2 hb) d3
  refine AllReadyH.cons (i := 16) (o := o36_16) rfl (fun K hK => ?_) ?_
  · rw [if_pos (by rfl)]
    refine step36_16 ?_
    have hb : Below W.heap.size W (W.alloc (.cells #[.string ⟨#[]⟩, .int .i64 0, .int .i64 0, .int .i64 0, .slice none 0 0] 35)) := (Below.refl _ _).alloc (Nat.le_refl _) _
    have hnew := heap_alloc_new W (.cells #[.string ⟨#[]⟩, .int .i64 0, .int .i64 0, .int .i64 0, .slice none 0 0] 35)
    have bl' : Below w.heap.size w (W.alloc (.cells #[.string ⟨#[]⟩, .int .i64 0, .int .i64 0, .int .i64 0, .slice none 0 0] 35)) := bl.alloc bl.size _
    refine hK.out _ _ bl' (fun _ => ?_)
    exact st_00011 C _ _ (fr.put 23 _ (by decide)) bl' Ed (put_get d1 (by decide)) (keep_below d2 hb) d3 W.heap.size (put_same (by rw [fr.size]; decide)) hnew bl.size
  exact AllReadyH.nil
set_option maxRecDepth 100000 in
theorem st_00001 (C : C36 Q T w c0 c1 c2 c3 c4 c5 fv gv O F G bx nm k1 k2 k3 its) (tm : Array Value) (W : World) (fr : Fr T tm (.agg #[c0, c1, c2, c3, c4, c5]) fv gv O) (bl : Below w.heap.size w W) (Ee : Nat) (e1 : tm[23]? = some (.pointer (some ⟨Ee, 0, none⟩))) (e2 : W.heap[Ee]? = some (.cells #[.string ⟨#[]⟩, .int .i64 0, .int .i64 0, .int .i64 0, .slice none 0 0] 35 (0, 0))) (e3 : w.heap.size ≤ Ee) :
    wpAnyH Try.prog .any ops36 Q (fun W => Below w.heap.size w W) 14 #[true, false, true, false, true, false, false, true, false, true, false, false, false, false, false, false, true, false, false, false] { tmps := tm, defers := [] } W := by
  refine wpAnyH_ready (rs := [1, 5, 8]) (by kernel_rfl) (by simp) ?_
  refine AllReadyH.cons (i := 1) (o := o36_1) rfl (fun K hK => ?_) ?_
  · rw [if_pos (by rfl)]
    refine step36_1 ?_
    have hb : Below W.heap.size W (W.alloc (.cells #[] 9)) := (Below.refl _ _).alloc (Nat.le_refl _) _
    have hnew := heap_alloc_new W (.cells #[] 9)
    have bl' : Below w.heap.size w (W.alloc (.cells #[] 9)) := bl.alloc bl.size _
    refine hK.out _ _ bl' (fun _ => ?_)
    exact st_01001 C _ _ (fr.put 142 _ (by decide)) bl' W.heap.size (put_same (by rw [fr.size]; decide)) hnew bl.size Ee (put_get e1 (by decide)) (keep_below e2 hb) e3 (fun h => by have := lt_heap e2; omega)
  refine AllReadyH.cons (i := 5) (o := o36_5) rfl (fun K hK => ?_) ?_
  · rw [if_pos (by rfl)]
    refine step36_5 fr.o1 ?_
    have hb : Below W.heap.size W (W.alloc (.cells #[.string O] 9)) := (Below.refl _ _).alloc (Nat.le_refl _) _
    have hnew := heap_alloc_new W (.cells #[.string O] 9)
    have bl' : Below w.heap.size w (W.alloc (.cells #[.string O] 9)) := bl.alloc bl.size _
    refine hK.out _ _ bl' (fun _ => ?_)
    exact st_00101 C _ _ (fr.put 146 _ (by decide)) bl' W.heap.size (put_same (by rw [fr.size]; decide)) hnew bl.size Ee (put_get e1 (by decide)) (keep_below e2 hb) e3
  refine AllReadyH.cons (i := 8) (o := o36_8) rfl (fun K hK => ?_) ?_
  · rw [if_pos (by rfl)]
    refine step36_8 fr.o2 ?_
    have hb : Below W.heap.size W (W.alloc (.cells #[.string O] 9)) := (Below.refl _ _).alloc (Nat.le_refl _) _
    have hnew := heap_alloc_new W (.cells #[.string O] 9)
    have bl' : Below w.heap.size w (W.alloc (.cells #[.string O] 9)) := bl.alloc bl.size _
    refine hK.out _ _ bl' (fun _ => ?_)
    exact st_00011 C _ _ (fr.put 149 _ (by decide)) bl' W.heap.size (put_same (by rw [fr.size]; decide)) hnew bl.size Ee (put_get e1 (by decide)) (keep_below e2 hb) e3
  exact AllReadyH.nil
set_option maxRecDepth 100000 in
theorem st_00000 (C : C36 Q T w c0 c1 c2 c3 c4 c5 fv gv O F G bx nm k1 k2 k3 its) (tm : Array Value) (W : World) (fr : Fr T tm (.agg #[c0, c1, c2, c3, c4, c5]) fv gv O) (bl : Below w.heap.size w W)  :
    wpAnyH Try.prog .any ops36 Q (fun W => Below w.heap.size w W) 15 #[true, false, true, false, true, false, false, true, false, true, false, false, false, false, false, false, false, false, false, false] { tmps := tm, defers := [] } W := by
  refine wpAnyH_ready (rs := [1, 5, 8, 16]) (by kernel_rfl) (by simp) ?_
  refine AllReadyH.cons (i := 1) (o := o36_1) rfl (fun K hK => ?_) ?_
  · rw [if_pos (by rfl)]
    refine step36_1 ?_
    have hb : Below W.heap.size W (W.alloc (.cells #[] 9)) := (Below.refl _ _).alloc (Nat.le_refl _) _
    have hnew := heap_alloc_new W (.cells #[] 9)
    have bl' : Below w.heap.size w (W.alloc (.cells #[] 9)) := bl.alloc bl.size _
    refine hK.out _ _ bl' (fun _ => ?_)
    exact st_01000 C _ _ (fr.put 142 _ (by decide)) bl' W.heap.size (put_same (by rw [fr.size]; decide)) hnew bl.size
  refine AllReadyH.cons (i := 5) (o := o36_5) rfl (fun K hK => ?_) ?_
  · rw [if_pos (by rfl)]
    refine step36_5 fr.o1 ?_
    have hb : Below W.heap.size W (W.alloc (.cells #[.string O] 9)) := (Below.refl _ _).alloc (Nat.le_refl _) _
    have hnew := heap_alloc_new W (.cells #[.string O] 9)
    have bl' : Below w.heap.size w (W.alloc (.cells #[.string O] 9)) := bl.alloc bl.size _
    refine hK.out _ _ bl' (fun _ => ?_)
    exact st_00100 C _ _ (fr.put 146 _ (by decide)) bl' W.heap.size (put_same (by rw [fr.size]; decide)) hnew bl.size
  refine AllReadyH.cons (i := 8) (o := o36_8) rfl (fun K hK => ?_) ?_
  · rw [if_pos (by rfl)]
    refine step36_8 fr.o2 ?_
    have hb : Below W.heap.size W (W.alloc (.cells #[.string O] 9)) := (Below.refl _ _).alloc (Nat.le_refl _) _
    have hnew := heap_alloc_new W (.cells #[.string O] 9)
    have bl' : Below w.heap.size w (W.alloc (.cells #[.string O] 9)) := bl.alloc bl.size _
    refine hK.out _ _ bl' (fun _ => ?_)
    exact st_00010 C _ _ (fr.put 149 _ (by decide)) bl' W.heap.size (put_same (by rw [fr.size]; decide)) hnew bl.size
  refine AllReadyH.cons (i := 16) (o := o36_16) rfl (fun K hK => ?_) ?_
  · rw [if_pos (by rfl)]
    refine step36_16 ?_
    have hb : Below W.heap.size W (W.alloc (.cells #[.string ⟨#[]⟩, .int .i64 0, .int .i64 0, .int .i64 0, .slice none 0 0] 35)) := (Below.refl _ _).alloc (Nat.le_refl _) _
    have hnew := heap_alloc_new W (.cells #[.string ⟨#[]⟩, .int .i64 0, .int .i64 0, .int .i64 0, .slice none 0 0] 35)
    have bl' : Below w.heap.size w (W.alloc (.cells #[.string ⟨#[]⟩, .int .i64 0, .int .i64 0, .int .i64 0, .slice none 0 0] 35)) := bl.alloc bl.size _
    refine hK.out _ _ bl' (fun _ => ?_)
    exact st_00001 C _ _ (fr.put 23 _ (by decide)) bl' W.heap.size (put_same (by rw [fr.size]; decide)) hnew bl.size
  exact AllReadyH.nil
end
end Go.Proofs.Ytpfgidhchjcomaa
