/- What the reader of names keeps; which names there are. -/
import Derived.Test.YtpfgidhchjcomaaMeFind
import Derived.WalkLawsBesides
namespace Go.Proofs.Ytpfgidhchjcomaa
open Go.RowKit
set_option linter.unusedVariables false
/-- the block of what a reader knows -/
def OwnBlk (w : World) (p k : Nat) : Prop := ∃ v, w.cell? ⟨p, 0, none⟩ = some v ∧ v.ownBlock = some k
/-- but for the reader p and what it knows all is as it was -/
def Kt (p : Nat) (w w' : World) : Prop := Ex (fun k => k = p ∨ OwnBlk w p k) w w' ∧ ∀ k, OwnBlk w' p k → OwnBlk w p k ∨ w.heap.size ≤ k
theorem Kt.refl (p : Nat) (w : World) : Kt p w w := ⟨Ex.refl _ _, fun _ h => Or.inl h⟩
theorem Kt.size {p : Nat} {w w' : World} (h : Kt p w w') : w.heap.size ≤ w'.heap.size := h.1.size
theorem Kt.of_below {p : Nat} {a b : World} (h : Below a.heap.size a b) (hp : p < a.heap.size) : Kt p a b := ⟨Ex.of_below h, fun k ⟨v, h1, h2⟩ => Or.inl ⟨v, (h.cell (p := ⟨p, 0, none⟩) hp).symm.trans h1, h2⟩⟩
theorem Kt.trans {p : Nat} {a b c : World} (h : Kt p a b) (g : Kt p b c) : Kt p a c :=
  ⟨⟨g.1.os.trans h.1.os, g.1.tape.trans h.1.tape, g.1.output.trans h.1.output, Nat.le_trans h.1.size g.1.size, fun k hk hs => by
    refine (g.1.block k (Nat.lt_of_lt_of_le hk h.1.size) fun hs' => hs ?_).trans (h.1.block k hk hs)
    rcases hs' with e | e
    · exact Or.inl e
    · rcases h.2 k e with e | e
      · exact Or.inr e
      · omega⟩, fun k hk => by
    rcases g.2 k hk with e | e
    · exact h.2 k e
    · exact Or.inr (Nat.le_trans h.1.size e)⟩
theorem Kt.far {p : Nat} {w w' : World} (h : Kt p w w') {b : Nat} (hb : b < w.heap.size) (h1 : b ≠ p) (h2 : ¬ OwnBlk w p b) : w'.heap[b]? = w.heap[b]? := h.1.block b hb fun hs => hs.elim h1 h2
/-- THE READER IN MEMORY: its own blocks from B on -/
structure RsAt (B : Nat) (w : World) (p : Nat) (kn : List Kn) (slots : Nat) (fv gv : Value) (F G : List ByteArray) : Prop where
  blk : ∃ v, w.heap[p]? = some (.cells #[v, .int .i64 (slots : Int), fv, gv] 56 (0, 0)) ∧ w.ownsRow B 91 3 v kn.length (knC kn)
  fs : StrsX (· < B) w fv F
  gs : StrsX (· < B) w gv G
  pB : B ≤ p
  nF : F.length ≤ 1000
  nK : kn.length ≤ slots
  nS : slots ≤ 60
theorem RsAt.later {B : Nat} {w w' : World} {p : Nat} {kn : List Kn} {slots : Nat} {fv gv : Value} {F G : List ByteArray} (h : RsAt B w p kn slots fv gv F G) (hb : Below w.heap.size w w') : RsAt B w' p kn slots fv gv F G := by
  obtain ⟨⟨v, h1, h2⟩, h3, h4, h5, h6, h7, h8⟩ := h
  have hlt := (Array.getElem?_eq_some_iff.1 h1).1
  exact ⟨⟨v, (hb.block p hlt).trans h1, own_grown h2 fun g hg => hb.block g (h2.lt g hg).2⟩, h3.later hb, h4.later hb, h5, h6, h7, h8⟩
theorem RsAt.get {B : Nat} {w : World} {p : Nat} {kn : List Kn} {slots : Nat} {fv gv : Value} {F G : List ByteArray} (h : RsAt B w p kn slots fv gv F G) :
    p < w.heap.size ∧ ∃ v, w.cell? ⟨p, 0, none⟩ = some v ∧ w.cell? ⟨p, 1, none⟩ = some (.int .i64 (slots : Int)) ∧ w.cell? ⟨p, 2, none⟩ = some fv ∧ w.cell? ⟨p, 3, none⟩ = some gv ∧ (∀ j, w.frozen? ⟨p, j, none⟩ = false) ∧ KnAt w v kn := by
  obtain ⟨⟨v, h1, h2⟩, h3, h4, h5, h6, h7, h8⟩ := h
  exact ⟨(Array.getElem?_eq_some_iff.1 h1).1, v, cell_of_row w _ _ _ _ _ h1, cell_of_row w _ _ _ _ _ h1, cell_of_row w _ _ _ _ _ h1, cell_of_row w _ _ _ _ _ h1, fun j => by unfold World.frozen?; rw [h1]; simp, B, h2⟩
theorem RsAt.own {B : Nat} {w : World} {p : Nat} {kn : List Kn} {slots : Nat} {fv gv : Value} {F G : List ByteArray} (h : RsAt B w p kn slots fv gv F G) {k : Nat} (hk : OwnBlk w p k) : TyAt 91 w k ∧ B ≤ k := by
  obtain ⟨⟨v, h1, h2⟩, -⟩ := h
  obtain ⟨v', e1, e2⟩ := hk
  rw [cell_of_row w p 0 _ _ _ h1] at e1
  simp at e1
  subst e1
  rcases h2.2 with ⟨rfl, -⟩ | ⟨g', cap, cur, rfl, hB, hh, -⟩
  · cases e2
  · injection e2 with e
    have e' : g' = k := e
    subst e'
    exact ⟨⟨_, _, hh⟩, hB⟩
theorem RsAt.ty {B : Nat} {w : World} {p : Nat} {kn : List Kn} {slots : Nat} {fv gv : Value} {F G : List ByteArray} (h : RsAt B w p kn slots fv gv F G) : TyAt 56 w p := by
  obtain ⟨⟨v, h1, h2⟩, -⟩ := h
  exact ⟨_, _, h1⟩
theorem TyAt.ne {T T' : TypeId} {w : World} {b c : Nat} (h : TyAt T w b) (h' : TyAt T' w c) (ht : T ≠ T') : b ≠ c := by
  rintro rfl
  obtain ⟨cs, fr, h⟩ := h
  obtain ⟨cs', fr', h'⟩ := h'
  rw [h] at h'
  injection h' with h'
  injection h' with _ h' _
  exact ht h'
theorem Kt.keep {B : Nat} {p : Nat} {w w' : World} {kn : List Kn} {slots : Nat} {fv gv : Value} {F G : List ByteArray} (h : Kt p w w') (hr : RsAt B w p kn slots fv gv F G) {b : Nat} {cs : Array Value} {t : TypeId} {fr : Nat × Nat} (hb : w.heap[b]? = some (.cells cs t fr)) (h1 : t ≠ 56) (h2 : t ≠ 91) : w'.heap[b]? = some (.cells cs t fr) := by
  have hlt := (Array.getElem?_eq_some_iff.1 hb).1
  have ht : TyAt t w b := ⟨_, _, hb⟩
  exact (h.far hlt (ht.ne hr.ty h1) fun ho => ht.ne (hr.own ho).1 h2 rfl).trans hb
theorem Kt.items {B : Nat} {p : Nat} {w w' : World} {kn : List Kn} {slots : Nat} {fv gv : Value} {F G : List ByteArray} (h : Kt p w w') (hr : RsAt B w p kn slots fv gv F G) {x : Nat → Prop} {d : Nat} {v : Value} {l : List It} (hi : ItsX 73 x d w v l) : ItsX 73 x d w' v l :=
  hi.keep fun k hk _ ⟨cs, fr, hb⟩ => (h.keep hr hb (by decide) (by decide)).trans hb.symm
theorem knC_push (kn : List Kn) (s : ByteArray) (slots : Nat) (b : Bool) : knC (kn ++ [⟨s, slots, b⟩]) = knC kn ++ [.string s, .int .i64 (slots : Int), .bool b] := by
  unfold knC
  rw [List.flatMap_append]
  simp [knC1]
theorem RsAt.push {B : Nat} {w WA wF : World} {p : Nat} {kn : List Kn} {slots : Nat} {fv gv v v' : Value} {F G : List ByteArray} {s : ByteArray} {b : Bool} (h : RsAt B w p kn slots fv gv F G) (hv : w.cell? ⟨p, 0, none⟩ = some v) (hW : Below w.heap.size w WA)
    (hown : wF.ownsRow B 91 3 v' (kn.length + 1) (knC kn ++ [.string s, .int .i64 (slots : Int), .bool b])) (hg : WA.grownBy wF v.ownBlock) (hat : ∀ g, v'.ownBlock = some g → v.ownBlock = some g ∨ w.heap.size ≤ g) (h60 : slots < 60) :
    RsAt B ((wF.setCell ⟨p, 0, none⟩ v').setCell ⟨p, 1, none⟩ (.int .i64 ((slots + 1 : Nat) : Int))) p (kn ++ [⟨s, slots, b⟩]) (slots + 1) fv gv F G ∧ Kt p w ((wF.setCell ⟨p, 0, none⟩ v').setCell ⟨p, 1, none⟩ (.int .i64 ((slots + 1 : Nat) : Int))) ∧ Below B w ((wF.setCell ⟨p, 0, none⟩ v').setCell ⟨p, 1, none⟩ (.int .i64 ((slots + 1 : Nat) : Int))) := by
  obtain ⟨⟨v0, h1, h2⟩, h3, h4, h5, h6, h7, h8⟩ := h
  have hv0 := cell_of_row w p 0 _ _ _ h1
  rw [hv] at hv0
  simp at hv0
  subst hv0
  have hlp := (Array.getElem?_eq_some_iff.1 h1).1
  have hty : ∀ g, v.ownBlock = some g → TyAt 91 w g := fun g hg => by
    rcases h2.2 with ⟨rfl, -⟩ | ⟨g', cap, cur, rfl, -, hh, -⟩
    · cases hg
    · injection hg with e
      subst e
      exact ⟨_, _, hh⟩
  have htyA : ∀ g, v.ownBlock = some g → TyAt 91 WA g := fun g hg => (hty g hg).of (hW.block g (hty g hg).lt)
  have hne : some p ≠ v.ownBlock := fun e => by
    obtain ⟨cs, fr, hh⟩ := hty p e.symm
    rw [h1] at hh
    injection hh with hh
    injection hh with _ hh _
    exact absurd hh (by decide)
  have f1 : wF.heap[p]? = some (.cells #[v, .int .i64 (slots : Int), fv, gv] 56 (0, 0)) := (hg.block p (by have := hW.size; omega) hne).trans ((hW.block p hlp).trans h1)
  have f2 := heap_set (i := 0) f1 v'
  have f3 := heap_set (i := 1) f2 (.int .i64 ((slots + 1 : Nat) : Int))
  have hne' : ∀ g, v'.ownBlock = some g → g ≠ p := fun g hg e => by
    subst e
    rcases hown.2 with ⟨rfl, h0⟩ | ⟨g', cap, cur, rfl, -, hh, -⟩
    · omega
    · injection hg with e
      have e' : g' = g := e
      subst e'
      rw [f1] at hh
      injection hh with hh
      injection hh with _ hh _
      exact absurd hh (by decide)
  have bB : Below B w ((wF.setCell ⟨p, 0, none⟩ v').setCell ⟨p, 1, none⟩ (.int .i64 ((slots + 1 : Nat) : Int))) :=
    (((show Below B w WA from ⟨hW.os, hW.tape, hW.output, hW.size, fun k hk => hW.block k (by omega)⟩).grown hg (by have := hW.size; omega) fun g hg => (h2.lt g hg).1).setCell (p := ⟨p, 0, none⟩) h5 _).setCell (p := ⟨p, 1, none⟩) h5 _
  refine ⟨⟨⟨v', f3, ?_⟩, ?_, ?_, h5, h6, by simp; omega, by omega⟩, ?_, bB⟩
  · rw [knC_push, List.length_append]
    exact own_grown hown fun g hg => by rw [heap_set_far (hne' g hg), heap_set_far (hne' g hg)]
  · exact h3.keep fun k _ hk => bB.block k hk
  · exact h4.keep fun k _ hk => bB.block k hk
  · have hv0 : OwnBlk w p = fun k => v.ownBlock = some k := by
      funext k
      apply propext
      constructor
      · rintro ⟨v1, e1, e2⟩
        rw [hv] at e1
        injection e1 with e1
        rw [e1]; exact e2
      · intro e
        exact ⟨v, hv, e⟩
    refine ⟨⟨bB.os, bB.tape, bB.output, bB.size, fun k hk hs => ?_⟩, fun k ⟨v1, e1, e2⟩ => ?_⟩
    · have hkp : k ≠ p := fun e => hs (Or.inl e)
      have hko : some k ≠ v.ownBlock := fun e => hs (Or.inr (by rw [hv0]; exact e.symm))
      rw [heap_set_far hkp, heap_set_far hkp]
      exact (hg.block k (by have := hW.size; omega) hko).trans (hW.block k hk)
    · have e3 := cell_of_row _ p 0 _ _ _ f3
      rw [e1] at e3
      simp at e3
      subst e3
      rcases hat k e2 with e | e
      · exact Or.inl (by rw [hv0]; exact e)
      · exact Or.inr e
def hasM (G : List ByteArray) (s : ByteArray) : Bool := G.any fun g => sameS s g
set_option maxRecDepth 100000 in
set_option maxHeartbeats 4000000 in
theorem indexG_any (x : Nat → Prop) (v : Value) (l : List ByteArray) (s : ByteArray) (w : World) (h : StrsX x w v l) :
    Calls Try.prog 76 #[v, .string s] w fun e w' => (∃ r : Int, e = .returned (.int .i64 r) ∧ decide (0 ≤ r) = hasM l s) ∧ Below w.heap.size w w' := by
  obtain ⟨a, c, rfl, h1, h2, -, -⟩ := id h
  have HS := Lib.hid h
  have hn : l.length < 9223372036854775808 := by unfold maxLen at h2; omega
  clear h
  go_enter Try.func76, Try.ntmps76
  go_wp2_with fail
  go_loopg [5, 8] l.length (fun gg s5 s8 wr => ∃ i : Nat, gg = l.length - i ∧ i ≤ l.length ∧ s8 = .int .i64 (i : Int) ∧ (∀ j y, j < i → l[j]? = some y → sameS s y = false) ∧ Below w.heap.size w wr)
  case atStart => exact ⟨0, rfl, by omega, rfl, fun j y h => absurd h (Nat.not_lt_zero _), Below.refl _ _⟩
  case round =>
    obtain ⟨i, hg, hi, rfl, hno, hb⟩ := hrel
    have HGG := Lib.hid hg
    have HN := Lib.hid hno
    have HB := Lib.hid hb
    have HSI := Lib.hid (HS.out.later hb)
    clear hg hno hb
    by_cases hlt : i < l.length
    · have hl := List.getElem?_eq_getElem hlt
      obtain ⟨b, o, rfl, hc⟩ := HSI.out.cell i _ hl
      cases hx : sameS s l[i] with
      | true =>
        have HA := Lib.hid (show hasM l s = true from List.any_eq_true.2 ⟨l[i], List.getElem_mem hlt, hx⟩)
        have hx' : (s.toList == l[i].toList) = true := hx
        clear hx hl
        generalize l[i] = y at *
        go_wp2_with fail
        go_ret
        exact ⟨⟨i, rfl, by rw [HA.out]; simp⟩, HB.out⟩
      | false =>
        have HM := Lib.hid (show ∀ j y, j < i + 1 → l[j]? = some y → sameS s y = false from fun j y hj hy => by
          by_cases hji : j = i
          · subst hji
            rw [hl] at hy; injection hy with hy; subst hy; exact hx
          · exact HN.out j y (by omega) hy)
        have hx' : (s.toList == l[i].toList) = false := hx
        clear hx hl
        generalize l[i] = y at *
        go_wp2_with fail
        go_roundg (l.length - (i + 1))
        case measure => rw [HGG.out]; omega
        case rel => exact ⟨i + 1, rfl, by omega, by go_num, HM.out, HB.out⟩
    · have : i = l.length := by omega
      have HA := Lib.hid (show hasM l s = false from any_take _ l (by rw [← this]; exact HN.out))
      go_wp2_with fail
      go_ret
      exact ⟨⟨-1, rfl, by rw [HA.out]; rfl⟩, HB.out⟩
set_option maxRecDepth 100000 in
theorem containsG_any (x : Nat → Prop) (v : Value) (l : List ByteArray) (s : ByteArray) (w : World) (h : StrsX x w v l) :
    Calls Try.prog 71 #[v, .string s] w fun e w' => e = .returned (.bool (hasM l s)) ∧ Below w.heap.size w w' := by
  have IX := Lib.hid (indexG_any x v l s w h)
  clear h
  go_enter Try.func71, Try.ntmps71
  go_wp2_with fail
  refine IX.out.mono ?_
  rintro e w1 ⟨⟨r, rfl, hr⟩, hb⟩
  have HB := Lib.hid hb
  have HR := Lib.hid hr
  clear hb hr
  go_wp2_with fail
  go_ret
  exact ⟨ret_bool HR.out, HB.out⟩
end Go.Proofs.Ytpfgidhchjcomaa
