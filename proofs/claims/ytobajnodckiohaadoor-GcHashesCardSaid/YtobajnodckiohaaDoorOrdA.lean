/- Order: what the words lead to, as it is first led to: the plain law. -/
import Derived.Test.YtobajnodckiohaaDoorGrowA
namespace Go.Proofs.YtobajnodckiohaaDoor
open Go.RowKit
set_option linter.unusedVariables false
structure InvB (N : Nat) (S : Nat → Bool) (M : Nat → Nat) (R : List Nat) (s : StQ) : Prop where
  met : ∀ a, s.1.1 a = true → Wd S M R (a * 2) ∧ S a = true
  wait : ∀ x, x ∈ s.1.2.1 → ∃ a, x = a * 2 ∧ s.1.1 a = true
  mem : ∀ a, s.1.1 a = true → a * 2 ∈ s.1.2.1
  loose : s.2 = true → Bad S M R
  sum : s.1.2.2 = ksum M s.1.1 N
  len : s.1.2.1.length = cnt s.1.1 N
/-- it only grows -/
def ExtQ (s t : StQ) : Prop := (∀ j, s.1.1 j = true → t.1.1 j = true) ∧ s.1.2.1 <+: t.1.2.1 ∧ (s.2 = true → t.2 = true)
theorem ExtQ.refl (s : StQ) : ExtQ s s := ⟨fun _ h => h, List.prefix_refl _, fun h => h⟩
theorem ExtQ.trans {s t u : StQ} (h : ExtQ s t) (k : ExtQ t u) : ExtQ s u := ⟨fun j hj => k.1 j (h.1 j hj), h.2.1.trans k.2.1, fun hq => k.2.2 (h.2.2 hq)⟩
theorem leadQ_b {N : Nat} {S : Nat → Bool} {M : Nat → Nat} {R : List Nat} {s : StQ} {x : Nat} (hG : GoodH N S M) (h : InvB N S M R s) (hx : Wd S M R x) :
    InvB N S M R (leadQ N S M s x) ∧ ExtQ s (leadQ N S M s x) ∧ ((leadQ N S M s x).2 = false → Res (leadQ N S M s x).1.1 x) := by
  unfold leadQ
  by_cases h0 : x = 0 ∨ x % 2 = 1
  · rw [if_pos h0]
    exact ⟨h, ExtQ.refl _, fun hq => (by rcases h0 with h0 | h0; exact Or.inl h0; exact Or.inr (Or.inl h0))⟩
  · rw [if_neg h0]
    by_cases hobj : x / 2 < 16777216 ∧ S (x / 2) = true
    · rw [if_pos hobj]
      obtain ⟨a, rfl⟩ : ∃ a, x = a * 2 := ⟨x / 2, by omega⟩
      have e2 : a * 2 / 2 = a := by omega
      rw [e2] at hobj
      have haN : a < N := by have := (hG a hobj.2).1.2.1; omega
      by_cases hT : s.1.1 a = true
      · have e : lead1 N M s.1 (a * 2) = s.1 := by unfold lead1; rw [if_neg (by omega), e2, if_pos hT]
        rw [e]
        exact ⟨h, ExtQ.refl _, fun hq => Or.inr (Or.inr (by rw [e2]; exact hT))⟩
      · have hT' : s.1.1 a = false := by simpa using hT
        have e : lead1 N M s.1 (a * 2) = (setS N s.1.1 (a : Int) true, s.1.2.1 ++ [a * 2], s.1.2.2 + 2 + cz M a) := by unfold lead1; rw [if_neg (by omega), e2, if_neg hT]
        rw [e]
        have hmono : ∀ j, s.1.1 j = true → setS N s.1.1 (a : Int) true j = true := fun j hj => (setT N a _ haN j).2 (Or.inr hj)
        refine ⟨⟨fun j hj => ?_, fun y hy => ?_, fun j hj => ?_, h.loose, ?_, ?_⟩, ⟨hmono, List.prefix_append _ _, fun hq => hq⟩, fun hq => Or.inr (Or.inr (by rw [e2]; exact (setT N a _ haN a).2 (Or.inl rfl)))⟩
        · rcases (setT N a _ haN j).1 hj with rfl | hj
          · exact ⟨hx, hobj.2⟩
          · exact h.met j hj
        · rcases List.mem_append.1 hy with hy | hy
          · obtain ⟨c, hc, ht⟩ := h.wait y hy
            exact ⟨c, hc, hmono c ht⟩
          · exact ⟨a, by simpa using hy, (setT N a _ haN a).2 (Or.inl rfl)⟩
        · rcases (setT N a _ haN j).1 hj with rfl | hj
          · exact List.mem_append.2 (Or.inr (by simp))
          · exact List.mem_append.2 (Or.inl (h.mem j hj))
        · show s.1.2.2 + 2 + cz M a = ksum M (setS N s.1.1 (a : Int) true) N
          rw [ksum_set N a N M s.1.1 haN hT', if_pos haN, ← h.sum]; omega
        · show (s.1.2.1 ++ [a * 2]).length = cnt (setS N s.1.1 (a : Int) true) N
          rw [cntset N a s.1.1 haN hT', List.length_append, List.length_singleton, h.len]
    · rw [if_neg hobj]
      exact ⟨⟨h.met, h.wait, h.mem, fun _ => ⟨x, hx, by omega, by omega, hobj⟩, h.sum, h.len⟩, ⟨fun _ hj => hj, List.prefix_refl _, fun _ => rfl⟩, fun hq => (by cases hq)⟩
theorem allNQ_b {N : Nat} {S : Nat → Bool} {M : Nat → Nat} {R : List Nat} {s : StQ} {a : Nat} (hG : GoodH N S M) (h : InvB N S M R s) (i : Nat) (hw : ∀ y, y ∈ M a :: (List.range i).map (fun j => M (a + 2 + j)) → Wd S M R y) :
    InvB N S M R (allNQ N S M s a i) ∧ ExtQ s (allNQ N S M s a i) ∧ ((allNQ N S M s a i).2 = false → ∀ y, y ∈ M a :: (List.range i).map (fun j => M (a + 2 + j)) → Res (allNQ N S M s a i).1.1 y) := by
  induction i with
  | zero =>
    obtain ⟨h1, h2, h3⟩ := leadQ_b hG h (hw (M a) (by simp))
    refine ⟨h1, h2, fun hq y hy => ?_⟩
    have : y = M a := by simpa using hy
    rw [this]; exact h3 hq
  | succ i ih =>
    obtain ⟨g1, g2, g3⟩ := ih (fun y hy => hw y (by
      rw [List.range_succ, List.map_append]
      rcases List.mem_cons.1 hy with h | h
      · exact List.mem_cons.2 (Or.inl h)
      · exact List.mem_cons.2 (Or.inr (List.mem_append.2 (Or.inl h)))))
    obtain ⟨h1, h2, h3⟩ := leadQ_b hG g1 (hw (M (a + 2 + i)) (by rw [List.range_succ, List.map_append]; simp))
    refine ⟨h1, g2.trans h2, fun hq y hy => ?_⟩
    have hq0 : (allNQ N S M s a i).2 = false := by
      cases hc : (allNQ N S M s a i).2 with
      | false => rfl
      | true => have := h2.2.2 hc; rw [show (allNQ N S M s a (i + 1)).2 = (leadQ N S M (allNQ N S M s a i) (M (a + 2 + i))).2 from rfl] at hq; rw [hq] at this; cases this
    rw [List.range_succ, List.map_append] at hy
    rcases List.mem_cons.1 hy with hy | hy
    · exact (g3 hq0 y (List.mem_cons.2 (Or.inl hy))).mono h2.1
    · rcases List.mem_append.1 hy with hy | hy
      · exact (g3 hq0 y (List.mem_cons.2 (Or.inr hy))).mono h2.1
      · have : y = M (a + 2 + i) := by simpa using hy
        rw [this]; exact h3 hq
/-- the states of the walk, object by object -/
def ordQ (N : Nat) (S : Nat → Bool) (M : Nat → Nat) (rs : List Nat) : Nat → StQ
  | 0 => rootsQ N S M rs rs.length
  | i + 1 => if i < (ordQ N S M rs i).1.2.1.length then allQ N S M (ordQ N S M rs i) ((ordQ N S M rs i).1.2.1.getD i 0 / 2) else ordQ N S M rs i
structure OrdI (N : Nat) (S : Nat → Bool) (M : Nat → Nat) (R : List Nat) (s : StQ) (i : Nat) : Prop where
  inv : InvB N S M R s
  roots : s.2 = false → ∀ x, x ∈ R → Res s.1.1 x
  done : s.2 = false → ∀ j a, j < i → s.1.2.1[j]? = some (a * 2) → ∀ y, y ∈ wordsA M a → Res s.1.1 y
theorem roots_b {N : Nat} {S : Nat → Bool} {M : Nat → Nat} {R : List Nat} (hG : GoodH N S M) (i : Nat) (hi : i ≤ R.length) :
    InvB N S M R (rootsQ N S M R i) ∧ ((rootsQ N S M R i).2 = false → ∀ j, j < i → Res (rootsQ N S M R i).1.1 (R.getD j 1)) := by
  induction i with
  | zero =>
    have hz : ∀ n, ksum M (fun _ => false) n = 0 := fun n => by
      induction n with
      | zero => rfl
      | succ n ih => unfold ksum; rw [ih]; rfl
    have hc : ∀ n, cnt (fun _ => false) n = 0 := fun n => by
      induction n with
      | zero => rfl
      | succ n ih => unfold cnt; rw [ih]; rfl
    exact ⟨⟨fun a h => (by cases h), fun x h => (by cases h), fun a h => (by cases h), fun h => (by cases h), (hz N).symm, (hc N).symm⟩, fun _ j hj => (by omega)⟩
  | succ i ih =>
    obtain ⟨h1, h2⟩ := ih (by omega)
    have hmem : R.getD i 1 ∈ R := by
      rw [List.getD_eq_getElem?_getD, List.getElem?_eq_getElem (by omega)]
      exact List.getElem_mem (by omega)
    obtain ⟨g1, g2, g3⟩ := leadQ_b hG h1 (Wd.root hmem)
    refine ⟨g1, fun hq j hj => ?_⟩
    by_cases hji : j = i
    · subst hji; exact g3 hq
    · have hq0 : (rootsQ N S M R i).2 = false := by
        cases hc : (rootsQ N S M R i).2 with
        | false => rfl
        | true => have := g2.2.2 hc; rw [show (rootsQ N S M R (i + 1)).2 = (leadQ N S M (rootsQ N S M R i) (R.getD i 1)).2 from rfl] at hq; rw [hq] at this; cases this
      exact (h2 hq0 j (by omega)).mono g2.1
theorem ord_inv {N : Nat} {S : Nat → Bool} {M : Nat → Nat} {R : List Nat} (hG : GoodH N S M) (i : Nat) : OrdI N S M R (ordQ N S M R i) i := by
  induction i with
  | zero =>
    obtain ⟨h1, h2⟩ := roots_b hG R.length (Nat.le_refl _)
    refine ⟨h1, fun hq x hx => ?_, fun _ j a hj => (by omega)⟩
    obtain ⟨j, hj, rfl⟩ := List.getElem_of_mem hx
    have := h2 hq j hj
    rw [List.getD_eq_getElem?_getD, List.getElem?_eq_getElem hj] at this
    exact this
  | succ i ih =>
    unfold ordQ
    by_cases hl : i < (ordQ N S M R i).1.2.1.length
    · rw [if_pos hl]
      obtain ⟨s, hs⟩ : ∃ s, ordQ N S M R i = s := ⟨_, rfl⟩
      rw [hs] at ih hl ⊢
      have hgi := List.getElem?_eq_getElem hl
      obtain ⟨a, ha, hTa⟩ := ih.inv.wait _ (List.getElem_mem hl)
      rw [ha] at hgi
      rw [List.getD_eq_getElem?_getD, hgi]
      show OrdI N S M R (allQ N S M s (a * 2 / 2)) (i + 1)
      rw [show a * 2 / 2 = a by omega]
      obtain ⟨hWa, hSa⟩ := ih.inv.met a hTa
      have hw : ∀ y, y ∈ M a :: (List.range (if hK (M (a + 1)) = 2 then 0 else (hS (M (a + 1))).toNat)).map (fun j => M (a + 2 + j)) → Wd S M R y := fun y hy => Wd.step hWa hSa (by rw [wordsA_eq]; exact hy)
      obtain ⟨g1, g2, g3⟩ := allNQ_b hG ih.inv (if hK (M (a + 1)) = 2 then 0 else (hS (M (a + 1))).toNat) hw
      have hq0 : (allQ N S M s a).2 = false → s.2 = false := fun hq => by
        cases hc : s.2 with
        | false => rfl
        | true => have := g2.2.2 hc; rw [show (allQ N S M s a).2 = (allNQ N S M s a _).2 from rfl] at hq; rw [hq] at this; cases this
      refine ⟨g1, fun hq x hx => (ih.roots (hq0 hq) x hx).mono g2.1, fun hq j c hj hjc y hy => ?_⟩
      obtain ⟨r, hr⟩ := g2.2.1
      have hjl : j < s.1.2.1.length := by omega
      have hjc' : s.1.2.1[j]? = some (c * 2) := by
        rw [show (allQ N S M s a).1.2.1 = s.1.2.1 ++ r from hr.symm, List.getElem?_append_left hjl] at hjc
        exact hjc
      by_cases hji : j = i
      · subst hji
        rw [hgi] at hjc'
        have : c = a := by injection hjc' with h; omega
        subst this
        rw [wordsA_eq] at hy
        exact g3 hq y hy
      · exact (ih.done (hq0 hq) j c (by omega) hjc' y hy).mono g2.1
    · rw [if_neg hl]
      refine ⟨ih.inv, ih.roots, fun hq j c hj hjc y hy => ?_⟩
      have hjl := (List.getElem?_eq_some_iff.1 hjc).1
      exact ih.done hq j c (by omega) hjc y hy
theorem ord_ext {N : Nat} {S : Nat → Bool} {M : Nat → Nat} {R : List Nat} (hG : GoodH N S M) (i : Nat) : ExtQ (ordQ N S M R i) (ordQ N S M R (i + 1)) := by
  conv => rhs; unfold ordQ
  by_cases hl : i < (ordQ N S M R i).1.2.1.length
  · rw [if_pos hl]
    have ih := ord_inv (R := R) hG i
    have hgi := List.getElem?_eq_getElem hl
    obtain ⟨a, ha, hTa⟩ := ih.inv.wait _ (List.getElem_mem hl)
    obtain ⟨hWa, hSa⟩ := ih.inv.met a hTa
    rw [ha] at hgi
    rw [List.getD_eq_getElem?_getD, hgi]
    show ExtQ _ (allQ N S M _ (a * 2 / 2))
    rw [show a * 2 / 2 = a by omega]
    exact (allNQ_b hG ih.inv _ (fun y hy => Wd.step hWa hSa (by rw [wordsA_eq]; exact hy))).2.1
  · rw [if_neg hl]; exact ExtQ.refl _
/-- at the end: all that is led to, each once -/
theorem ord_end {N : Nat} {S : Nat → Bool} {M : Nat → Nat} {R : List Nat} {s : StQ} {m : Nat} (hG : GoodH N S M) (hN : N ≤ 16777216) (h : OrdI N S M R s m) (hl : s.1.2.1.length = m) (hq : s.2 = false) :
    ¬ Bad S M R ∧ ∀ a, s.1.1 a = true ↔ Wd S M R (a * 2) ∧ S a = true := by
  have key : ∀ x, Wd S M R x → Res s.1.1 x := by
    intro x hx
    induction hx with
    | root hx => exact h.roots hq _ hx
    | @step a y hw hs hy ih =>
      have ha1 := (hG a hs).1.1
      have hT : s.1.1 a = true := by
        rcases ih with h | h | h
        · omega
        · omega
        · rw [show a * 2 / 2 = a by omega] at h; exact h
      obtain ⟨j, hj, hje⟩ := List.getElem_of_mem (h.inv.mem a hT)
      exact h.done hq j a (by omega) (by rw [List.getElem?_eq_getElem hj, hje]) y hy
  have h2 : ∀ a, s.1.1 a = true ↔ Wd S M R (a * 2) ∧ S a = true := by
    intro a
    refine ⟨h.inv.met a, fun ⟨h1, h2⟩ => ?_⟩
    have ha1 := (hG a h2).1.1
    rcases key _ h1 with h | h | h
    · omega
    · omega
    · rw [show a * 2 / 2 = a by omega] at h; exact h
  refine ⟨?_, h2⟩
  rintro ⟨y, hy, y0, y1, y2⟩
  rcases key y hy with h3 | h3 | h3
  · exact y0 h3
  · omega
  · have h4 := (h.inv.met _ h3).2
    have h5 := (hG _ h4).1.2.1
    exact y2 ⟨by omega, h4⟩
set_option maxRecDepth 100000 in
set_option maxHeartbeats 1000000 in
theorem order_gen (B0 h N free : Nat) (S : Nat → Bool) (M : Nat → Nat) (rs : List Nat) (a0 : Option Addr) (cap : Nat) (w : World) (H0 : HeapAt w B0 h N free S M) (hG : GoodH N S M)
    (hrs : ∀ i, i < rs.length → rs.getD i 1 < 18446744073709551616 ∧ ∃ rb ro, a0 = some ⟨rb, ro, none⟩ ∧ rb < w.heap.size ∧ w.cell? ⟨rb, ro + i, none⟩ = some (.int .u64 (rs.getD i 1 : Int))) (hcap : rs.length ≤ cap) (hcap2 : rs.length ≤ 1000000) (hcap3 : cap ≤ maxLen) :
    Calls Tryd.prog 8 #[.pointer (some ⟨h, 0, none⟩), .slice a0 rs.length cap] w fun e w' => ∃ m, (ordQ N S M rs m).1.2.1.length = m ∧ (∀ i, i < m → i < (ordQ N S M rs i).1.2.1.length) ∧
      (((ordQ N S M rs m).2 = true ∧ e = .returned (.tuple #[.slice none 0 0, .int .i64 13])) ∨ ((ordQ N S M rs m).2 = false ∧ ∃ v, e = .returned (.tuple #[v, .int .i64 0]) ∧ OwnsW w' w.heap.size v (ordQ N S M rs m).1.2.1)) ∧ Below w.heap.size w w' := by
  obtain ⟨B, hB⟩ : ∃ B, w.heap.size = B := ⟨_, rfl⟩
  have hN : N ≤ 16777216 := by obtain ⟨g, s, -, -, h3, -⟩ := H0; exact h3
  have BG := Lib.hid (begin_any B0 h N free S M w H0)
  have LD := Lib.hid (fun p W (hW : Below B w W) t (hL : LookQ W B p h N t) x hx h1 h2 => lead_gen w B0 B p h N free x S M t W H0 hB hW hL hG hx h1 h2)
  have AA := Lib.hid (fun p W (hW : Below B w W) t (hL : LookQ W B p h N t) a ha h1 h2 => all_gen w B0 B p h N free a S M t W H0 hB hW hL hG ha h1 h2)
  have RS := Lib.hid (show ∀ W, Below B w W → ∀ i, i < rs.length → rs.getD i 1 < 18446744073709551616 ∧ ∃ rb ro, a0 = some ⟨rb, ro, none⟩ ∧ W.cell? ⟨rb, ro + i, none⟩ = some (.int .u64 (rs.getD i 1 : Int)) from fun W hW i hi => by
    obtain ⟨h1, rb, ro, h2, h3, h4⟩ := hrs i hi
    exact ⟨h1, rb, ro, h2, (hW.cell (p := ⟨rb, ro + i, none⟩) (show rb < B by omega)).trans h4⟩)
  have OI := Lib.hid (fun i => ord_inv (R := rs) hG i)
  have OB := Lib.hid (show ∀ i, (ordQ N S M rs i).1.2.1.length ≤ N ∧ (ordQ N S M rs i).1.2.2 ≤ 1048578 * N from fun i => by
    have h := (ord_inv (R := rs) hG i).inv
    have h2 := cnt_le (ordQ N S M rs i).1.1 N
    have h3 := ksum_bd M (ordQ N S M rs i).1.1 N
    rw [h.len, h.sum]
    exact ⟨h2, h3⟩)
  have OE := Lib.hid (fun i => (ord_ext (R := rs) hG i).2.1.length_le)
  have RL := Lib.hid (rootsQ_len N S M rs)
  unfold maxLen at hcap3
  rw [hB] at BG ⊢
  have HO0 := Lib.hid (show ordQ N S M rs 0 = rootsQ N S M rs rs.length from rfl)
  generalize hq : rs.length = q at *
  have hq2 := Lib.hid hq
  clear hq hrs H0 hB hG
  go_enter Tryd.func8, Tryd.ntmps8
  go_wp2_with fail
  refine BG.out.mono ?_
  rintro e w1 ⟨p, rfl, hl1, hg1⟩
  have HL1 := Lib.hid (show LookQ w1 B p h N (rootsQ N S M rs 0) from hl1)
  have HG1 := Lib.hid hg1
  clear hl1 hg1
  go_wp2_with fail
  go_loopg [14] q (fun gg s16 wr => ∃ i : Nat, gg = q - i ∧ i ≤ q ∧ s16 = .int .i64 (i : Int) ∧ LookQ wr B p h N (rootsQ N S M rs i) ∧ Below B w wr)
  case atStart => exact ⟨0, rfl, by omega, rfl, HL1.out, HG1.out⟩
  case round =>
    obtain ⟨i, hgi, hi, rfl, hl5, hg5⟩ := hrel
    have HGI := Lib.hid hgi
    have HL5 := Lib.hid hl5
    have HG5 := Lib.hid hg5
    clear hgi
    by_cases hlt : i < q
    · obtain ⟨r1, rb, ro, rfl, r3⟩ := RS.out wr hg5 i hlt
      have hE : rootsQ N S M rs (i + 1) = leadQ N S M (rootsQ N S M rs i) (rs.getD i 1) := rfl
      generalize rs.getD i 1 = x at *
      have HE := Lib.hid hE
      have LDi := Lib.hid (LD.out p wr hg5 _ hl5 _ r1 (by have := RL.out i; omega) (by have := RL.out i; omega))
      clear r1 hl5 hg5 hE
      go_wp2_with fail
      refine LDi.out.mono ?_
      rintro e w7 ⟨rfl, hl7, hg7, hk7⟩
      have HL7 := Lib.hid (show LookQ w7 B p h N (rootsQ N S M rs (i + 1)) from by rw [HE.out]; exact hl7)
      have HG7 := Lib.hid (HG5.out.trans hg7)
      clear hl7 hg7 hk7
      go_wp2_with fail
      go_roundg (q - (i + 1))
      case measure => rw [HGI.out]; omega
      case rel => exact ⟨i + 1, rfl, by omega, by go_num, HL7.out, HG7.out⟩
    · have hiq : i = q := by omega
      have HL6 := Lib.hid (show LookQ wr B p h N (ordQ N S M rs 0) from by rw [HO0.out]; rw [hiq] at hl5; exact hl5)
      clear hl5 hg5 HL5 hiq HO0
      go_wp2_with fail
      go_loopg [9] (N + 1) (fun gg s9 wr => ∃ i : Nat, gg = N + 1 - i ∧ s9 = .int .i64 (i : Int) ∧ i ≤ (ordQ N S M rs i).1.2.1.length ∧ (∀ j, j < i → j < (ordQ N S M rs j).1.2.1.length) ∧ LookQ wr B p h N (ordQ N S M rs i) ∧ Below B w wr)
      case atStart => exact ⟨0, rfl, rfl, Nat.zero_le _, fun j hj => (by omega), HL6.out, HG5.out⟩
      case round =>
        obtain ⟨i, hgj, rfl, hil, hpast, hl8, hg8⟩ := hrel
        have HGJ := Lib.hid hgj
        have HL8 := Lib.hid hl8
        have HG8 := Lib.hid hg8
        have HPA := Lib.hid hpast
        obtain ⟨hb1, hb2⟩ := OB.out i
        clear hgj hg8 HL6 HG5 hpast
        by_cases hlt2 : i < (ordQ N S M rs i).1.2.1.length
        · obtain ⟨g, cp, z2, c1, c2, -, hcell⟩ := LookAt.row hl8 (fun e => by rw [e] at hlt2; simp at hlt2)
          have hgi := List.getElem?_eq_getElem hlt2
          obtain ⟨a, ha, hTa⟩ := (OI.out i).inv.wait _ (List.getElem_mem hlt2)
          obtain ⟨-, hSa⟩ := (OI.out i).inv.met a hTa
          rw [ha] at hgi
          have z3 := hcell i _ hgi
          rw [show ((a * 2 : Nat) : Int) = (a : Int) * 2 by omega] at z3
          have HE := Lib.hid (show ordQ N S M rs (i + 1) = allQ N S M (ordQ N S M rs i) a by
            conv => lhs; unfold ordQ
            rw [if_pos hlt2, List.getD_eq_getElem?_getD, hgi]
            show allQ _ _ _ _ (a * 2 / 2) = _
            rw [show a * 2 / 2 = a by omega])
          have AAi := Lib.hid (AA.out p wr HG8.out _ HL8.out a hSa (by omega) (by omega))
          unfold maxLen at c2
          obtain ⟨zl, hpl⟩ := hl8.loose
          clear hl8 hcell hgi ha hTa hSa zl
          have HP2 := Lib.hid (show ∀ j, j < i + 1 → j < (ordQ N S M rs j).1.2.1.length from fun j hj => by
            by_cases e : j = i
            · subst e; exact hlt2
            · exact HPA.out j (by omega))
          have HEX := Lib.hid (OE.out i)
          have HLT := Lib.hid (show i + 1 ≤ (ordQ N S M rs i).1.2.1.length from hlt2)
          generalize (ordQ N S M rs i).1.2.1.length = ln at *
          go_wp2_with fail
          all_goals (try (exfalso; go_light; omega))
          refine AAi.out.mono ?_
          rintro e w9 ⟨rfl, hl9, hg9⟩
          have HL9 := Lib.hid (show LookQ w9 B p h N (ordQ N S M rs (i + 1)) from by rw [HE.out]; exact hl9)
          have HGA := Lib.hid (HG8.out.trans hg9)
          have hle : i + 1 ≤ (ordQ N S M rs (i + 1)).1.2.1.length := Nat.le_trans HLT.out HEX.out
          have HLE := Lib.hid hle
          clear hl9 hg9 hle
          go_wp2_with fail
          go_roundg (N + 1 - (i + 1))
          case measure => rw [HGJ.out]; omega
          case rel => exact ⟨i + 1, rfl, by go_num, HLE.out, HP2.out, HL9.out, HGA.out⟩
        · have hil2 : (ordQ N S M rs i).1.2.1.length = i := by omega
          have HI2 := Lib.hid hil2
          obtain ⟨zl, hpl⟩ := hl8.loose
          have hout : ∃ (wa : Option Addr) (wn wc : Nat), wr.cell? ⟨p, 2, none⟩ = some (.slice wa wn wc) ∧ wn = i ∧ OwnsW wr B (.slice wa wn wc) (ordQ N S M rs i).1.2.1 := by
            obtain ⟨b, v, h1, h2, h3, h4, h6⟩ := hl8
            obtain ⟨wa, wc, z2, -, -⟩ := LookAt.wait (show LookAt wr B p h N _ _ _ _ from HL8.out)
            have z2' := cellO h3 2
            simp at z2'
            rw [z2'] at z2
            injection z2 with z2
            subst z2
            exact ⟨_, _, _, z2', hil2, h6⟩
          obtain ⟨wa, wn, wc, z2, rfl, ho⟩ := hout
          have HO := Lib.hid ho
          cases hlo : (ordQ N S M rs wn).2 with
          | true =>
            rw [hlo] at zl
            have HLO := Lib.hid hlo
            clear hlo hl8 hil hlt2 hil2 ho hb1 hb2
            go_wp2_with fail
            all_goals (try (exfalso; go_light; omega))
            exact bodyPost_ret (v := .tuple #[.slice none 0 0, .int .i64 13]) (by simp [results, Tryd.results8, go_sem]) rfl ⟨wn, HI2.out, HPA.out, Or.inl ⟨HLO.out, rfl⟩, HG8.out⟩
          | false =>
            rw [hlo] at zl
            have HLO := Lib.hid hlo
            clear hlo hl8 hil hlt2 hil2 ho hb1 hb2
            go_wp2_with fail
            all_goals (try (exfalso; go_light; omega))
            exact bodyPost_ret (v := .tuple #[.slice wa wn wc, .int .i64 0]) (by simp [results, Tryd.results8, go_sem]) rfl ⟨wn, HI2.out, HPA.out, Or.inr ⟨HLO.out, _, rfl, HO.out⟩, HG8.out⟩
end Go.Proofs.YtobajnodckiohaaDoor
