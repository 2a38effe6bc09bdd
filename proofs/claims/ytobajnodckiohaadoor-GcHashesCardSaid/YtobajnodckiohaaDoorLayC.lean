/- Both heaps of a graph are the same objects: the plain law. What an object's next word leads to. What stands in memory while a graph is laid. -/
import Derived.Test.YtobajnodckiohaaDoorRefE
import Derived.Test.YtobajnodckiohaaDoorPlaces
import Derived.Test.YtobajnodckiohaaDoorHeapPut
namespace Go.Proofs.YtobajnodckiohaaDoor
open Go.RowKit
set_option linter.unusedVariables false
theorem unOK_packL {c k s h : Int} (m : Bool) (hz : checkZ c k s h = 0) (hh : 0 ≤ h) :
    UnOK c (packZ k s h m) ∧ hK (packZ k s h m) = k ∧ hS (packZ k s h m) = s ∧ hH (packZ k s h m) = h ∧ hM (packZ k s h m) = m ∧ 0 ≤ packZ k s h m ∧ packZ k s h m < 18446744073709551616 := by
  obtain ⟨a0, a1, s0, s1, hh1, k0, k1⟩ := checkZ_ok.1 hz
  unfold UnOK hK hS hH hM packZ
  cases m <;> simp <;> omega
/-- an object of both heaps -/
structure LayO (free : Nat) (S : Nat → Bool) (M : Nat → Nat) (o : RO) : Prop where
  here : S o.at_ = true
  two : 2 ≤ o.at_
  cls : M o.at_ = o.cls
  head : M (o.at_ + 1) = (packZ o.kind 3 0 false).toNat
  check : checkZ (o.cls : Int) o.kind 3 0 = 0
  small : o.cls < 18446744073709551616
  fit : o.at_ + 2 + cellsR o ≤ free
  words : o.kind ≠ 2 → o.words.length = 3 ∧ ∀ i, i < 3 → M (o.at_ + 2 + i) = o.words.getD i 0
  raw : o.kind = 2 → o.words = []
  bytes : o.bytes = newB o.kind
  tail : o.kind = 2 → M (o.at_ + 2) = 0
structure Lays (free : Nat) (S : Nat → Bool) (M : Nat → Nat) (os : List RO) : Prop where
  used : usedR os = free
  two : 2 ≤ free
  most : free ≤ 2 + 5 * os.length
  obj : ∀ (i : Nat) (o : RO), os[i]? = some o → LayO free S M o
  only : ∀ a, S a = true → ∃ (i : Nat) (o : RO), os[i]? = some o ∧ o.at_ = a
  ord : ∀ (i j : Nat) (o p : RO), i < j → os[i]? = some o → os[j]? = some p → o.at_ + 2 + cellsR o ≤ p.at_
  zero : ∀ j, free ≤ j → M j = 0
  next : ∀ (i : Nat) (o : RO), os[i]? = some o → o.at_ = usedR (os.take i)
theorem cellsR_of {o : RO} (h : checkZ (o.cls : Int) o.kind 3 0 = 0) : cellsR o = if o.kind = 2 then 1 else 3 := by
  unfold cellsR cellsZ
  rw [if_pos h]
  split <;> rfl
theorem lays_nil : Lays 2 (fun _ => false) (fun _ => 0) [] :=
  ⟨rfl, Nat.le_refl _, Nat.le_refl _, fun i o h => by simp at h, fun a h => (by cases h), (fun i j o p _ h => by simp at h), fun _ _ => rfl, fun i o h => by simp at h⟩
theorem usedR_snoc (os : List RO) (o : RO) : usedR (os ++ [o]) = o.at_ + 2 + cellsR o := by
  unfold usedR; rw [List.getLast?_concat]
theorem get_snoc {os : List RO} {o p : RO} {i : Nat} (h : (os ++ [o])[i]? = some p) : os[i]? = some p ∨ i = os.length ∧ p = o := by
  by_cases hi : i < os.length
  · rw [List.getElem?_append_left hi] at h; exact Or.inl h
  · rw [List.getElem?_append_right (by omega)] at h
    by_cases e : i - os.length = 0
    · rw [e] at h; simp at h; exact Or.inr ⟨by omega, h.symm⟩
    · rw [List.getElem?_eq_none (by simp; omega)] at h; cases h
theorem Lays.add {N free c : Nat} {k : Int} {S : Nat → Bool} {M M' : Nat → Nat} {os : List RO} (h : Lays free S M os) (hN : free < N) (hz : checkZ (c : Int) k 3 0 = 0) (hc : c < 18446744073709551616)
    (h0 : ∀ j, j < free → M' j = M j) (h1 : M' free = c) (h2 : M' (free + 1) = (packZ k 3 0 false).toNat) (h3 : k ≠ 2 → ∀ i, i < 3 → M' (free + 2 + i) = 1)
    (h4 : ∀ j, free + 2 + (if k = 2 then 0 else 3) ≤ j → M' j = M j) :
    Lays (free + 2 + (if k = 2 then 1 else 3)) (setS N S (free : Int) true) M' (os ++ [⟨free, c, k, newW k, newB k⟩]) := by
  have hcr : cellsR ⟨free, c, k, newW k, newB k⟩ = if k = 2 then 1 else 3 := cellsR_of hz
  have hs := h.two
  have hset := fun j => setT N free S hN j
  refine ⟨by rw [usedR_snoc, hcr], by omega, ?_, fun i p hp => ?_, fun a ha => ?_, fun i j o p hij ho hp => ?_, fun j hj => ?_, fun i p hp => ?_⟩
  · have := h.most
    rw [List.length_append, List.length_singleton]
    split <;> omega
  · rcases get_snoc hp with hp | ⟨rfl, rfl⟩
    · obtain ⟨a, b, c1, d, e, f, g, w, r, y, tl⟩ := h.obj i p hp
      have hcp := cellsR_of e
      refine ⟨(hset _).2 (Or.inr a), b, (h0 _ (by omega)).trans c1, (h0 _ (by omega)).trans d, e, f, by omega, fun hk => ⟨(w hk).1, fun i hi => ?_⟩, r, y, fun hk => ?_⟩
      rotate_left
      · rw [if_pos hk] at hcp
        exact (h0 _ (by omega)).trans (tl hk)
      rw [if_neg hk] at hcp
      exact (h0 _ (by omega)).trans ((w hk).2 i hi)
    · refine ⟨(hset _).2 (Or.inl rfl), hs, h1, h2, hz, hc, by rw [hcr]; exact Nat.le_refl _, fun hk => ⟨by show (newW k).length = 3; unfold newW; rw [if_neg hk]; rfl, fun i hi => ?_⟩, (fun hk => by show newW k = []; unfold newW; rw [if_pos hk]), rfl, fun hk => ?_⟩
      rotate_left
      · have hk : k = 2 := hk
        rw [if_pos hk] at h4
        exact (h4 _ (Nat.le_refl _)).trans (h.zero _ (by omega))
      rw [h3 hk i hi]
      show 1 = (newW k).getD i 0
      unfold newW
      rw [if_neg hk]
      match i, hi with
      | 0, _ => rfl
      | 1, _ => rfl
      | 2, _ => rfl
  · rcases (hset a).1 ha with rfl | ha
    · exact ⟨os.length, ⟨a, c, k, newW k, newB k⟩, by rw [List.getElem?_append_right (Nat.le_refl _), Nat.sub_self]; rfl, rfl⟩
    · obtain ⟨i, o, ho, hoa⟩ := h.only a ha
      exact ⟨i, o, by rw [List.getElem?_append_left (List.getElem?_eq_some_iff.1 ho).1]; exact ho, hoa⟩
  · rcases get_snoc hp with hp' | ⟨rfl, rfl⟩
    · rcases get_snoc ho with ho' | ⟨rfl, rfl⟩
      · exact h.ord i j o p hij ho' hp'
      · have := (List.getElem?_eq_some_iff.1 hp').1; omega
    · rcases get_snoc ho with ho' | ⟨rfl, rfl⟩
      · exact (h.obj i o ho').fit
      · omega
  · rw [h4 j (by split <;> split at hj <;> omega)]
    exact h.zero j (by split at hj <;> omega)
  · rcases get_snoc hp with hp' | ⟨rfl, rfl⟩
    · have hl := (List.getElem?_eq_some_iff.1 hp').1
      rw [List.take_append_of_le_length (by omega)]
      exact h.next i p hp'
    · rw [List.take_left' rfl]
      exact h.used.symm
theorem usedR_set {os : List RO} {k : Nat} {o p : RO} (hk : os[k]? = some o) (h1 : p.at_ = o.at_) (h2 : cellsR p = cellsR o) : usedR (os.set k p) = usedR os := by
  have hl := (List.getElem?_eq_some_iff.1 hk).1
  unfold usedR
  rw [List.getLast?_eq_getElem?, List.getLast?_eq_getElem?, List.length_set]
  by_cases e : k = os.length - 1
  · subst e
    rw [List.getElem?_set_self hl, hk]
    show p.at_ + 2 + cellsR p = o.at_ + 2 + cellsR o
    rw [h1, h2]
  · rw [List.getElem?_set_ne e]
theorem Lays.at_lt {free : Nat} {S : Nat → Bool} {M : Nat → Nat} {os : List RO} (h : Lays free S M os) {i j : Nat} {o p : RO} (hi : os[i]? = some o) (hj : os[j]? = some p) (hne : i ≠ j) : o.at_ + 2 + cellsR o ≤ p.at_ ∨ p.at_ + 2 + cellsR p ≤ o.at_ := by
  rcases Nat.lt_or_ge i j with hl | hl
  · exact Or.inl (h.ord i j o p hl hi hj)
  · exact Or.inr (h.ord j i p o (by omega) hj hi)
theorem Lays.put {free k i x : Nat} {S : Nat → Bool} {M : Nat → Nat} {os : List RO} {o : RO} (h : Lays free S M os) (hk : os[k]? = some o) (hkd : o.kind ≠ 2) (hi : i < 3) :
    Lays free S (fun j => if j = o.at_ + 2 + i then x else M j) (os.set k { o with words := o.words.set i x }) := by
  have hl := (List.getElem?_eq_some_iff.1 hk).1
  have hget : ∀ (j : Nat) (p : RO), (os.set k { o with words := o.words.set i x })[j]? = some p → (j = k ∧ p = { o with words := o.words.set i x }) ∨ (j ≠ k ∧ os[j]? = some p) := by
    intro j p hp
    by_cases e : k = j
    · subst e; rw [List.getElem?_set_self hl] at hp; injection hp with hp; exact Or.inl ⟨rfl, hp.symm⟩
    · rw [List.getElem?_set_ne e] at hp; exact Or.inr ⟨fun e' => e e'.symm, hp⟩
  have hold : ∀ (j : Nat) (p : RO), (os.set k { o with words := o.words.set i x })[j]? = some p → ∃ q, os[j]? = some q ∧ p.at_ = q.at_ ∧ cellsR p = cellsR q := by
    intro j p hp
    rcases hget j p hp with ⟨rfl, rfl⟩ | ⟨_, hp⟩
    · exact ⟨o, hk, rfl, rfl⟩
    · exact ⟨p, hp, rfl, rfl⟩
  have ho := h.obj k o hk
  have hco := cellsR_of ho.check
  rw [if_neg hkd] at hco
  refine ⟨(usedR_set (p := { o with words := o.words.set i x }) hk rfl rfl).trans h.used, h.two, by rw [List.length_set]; exact h.most, fun j p hp => ?_, fun a ha => ?_, fun i' j' p q hij hp hq => ?_, fun j hj => ?_, fun i' p hp => ?_⟩
  · rcases hget j p hp with ⟨rfl, rfl⟩ | ⟨hne, hp⟩
    · refine ⟨ho.here, ho.two, ?_, ?_, ho.check, ho.small, ho.fit, fun _ => ⟨by show (o.words.set i x).length = 3; rw [List.length_set]; exact (ho.words hkd).1, fun i' hi' => ?_⟩, fun e => absurd e hkd, ho.bytes, fun e => absurd e hkd⟩
      · show (if o.at_ = o.at_ + 2 + i then x else M o.at_) = _
        rw [if_neg (by omega)]; exact ho.cls
      · show (if o.at_ + 1 = o.at_ + 2 + i then x else M (o.at_ + 1)) = _
        rw [if_neg (by omega)]; exact ho.head
      · show (if o.at_ + 2 + i' = o.at_ + 2 + i then x else M (o.at_ + 2 + i')) = (o.words.set i x).getD i' 0
        rw [List.getD_eq_getElem?_getD]
        by_cases e : i = i'
        · subst e
          rw [if_pos rfl, List.getElem?_set_self (by rw [(ho.words hkd).1]; exact hi)]; rfl
        · rw [if_neg (by omega), List.getElem?_set_ne e, (ho.words hkd).2 i' hi', List.getD_eq_getElem?_getD]
    · have hp' := h.obj j p hp
      have hcp := cellsR_of hp'.check
      have hd := h.at_lt hp hk hne
      have h1 : ∀ y, y = p.at_ ∨ y = p.at_ + 1 ∨ y = p.at_ + 2 ∨ (p.kind ≠ 2 ∧ p.at_ + 2 ≤ y ∧ y < p.at_ + 5) → (if y = o.at_ + 2 + i then x else M y) = M y := by
        intro y hy
        rw [if_neg]
        intro e
        rcases hy with hy | hy | hy | ⟨hk2, hy⟩
        · split at hcp <;> omega
        · split at hcp <;> omega
        · split at hcp <;> omega
        · rw [if_neg hk2] at hcp; omega
      refine ⟨hp'.here, hp'.two, (h1 _ (Or.inl rfl)).trans hp'.cls, (h1 _ (Or.inr (Or.inl rfl))).trans hp'.head, hp'.check, hp'.small, hp'.fit, fun hk2 => ⟨(hp'.words hk2).1, fun i' hi' => (h1 _ (Or.inr (Or.inr (Or.inr ⟨hk2, by omega, by omega⟩)))).trans ((hp'.words hk2).2 i' hi')⟩, hp'.raw, hp'.bytes, fun hk2 => (h1 _ (Or.inr (Or.inr (Or.inl rfl)))).trans (hp'.tail hk2)⟩
  · obtain ⟨j, p, hp, hpa⟩ := h.only a ha
    by_cases e : k = j
    · subst e
      rw [hk] at hp; injection hp with hp; subst hp
      exact ⟨k, _, List.getElem?_set_self hl, hpa⟩
    · exact ⟨j, p, by rw [List.getElem?_set_ne e]; exact hp, hpa⟩
  · obtain ⟨p', hp', e1, e2⟩ := hold i' p hp
    obtain ⟨q', hq', e3, e4⟩ := hold j' q hq
    have := h.ord i' j' p' q' hij hp' hq'
    omega
  · show (if j = o.at_ + 2 + i then x else M j) = 0
    rw [if_neg (by have := ho.fit; omega)]
    exact h.zero j hj
  · obtain ⟨q, hq, e1, -⟩ := hold i' p hp
    rw [e1, h.next i' q hq]
    by_cases hki : k < i'
    · rw [List.take_set]
      exact (usedR_set (o := o) (p := { o with words := o.words.set i x }) (by rw [List.getElem?_take, if_pos hki]; exact hk) rfl rfl).symm
    · rw [List.take_set, List.set_eq_of_length_le (by rw [List.length_take]; omega)]
theorem Lays.isAt {free k : Nat} {S : Nat → Bool} {M : Nat → Nat} {os : List RO} {o : RO} (h : Lays free S M os) (hk : os[k]? = some o) : IsAt os (o.at_ * 2) k :=
  ⟨⟨o, hk, rfl⟩, fun j p hj hp => by have := h.ord j k p o hj hp hk; omega⟩
theorem Lays.small {free : Nat} {S : Nat → Bool} {M : Nat → Nat} {os : List RO} (h : Lays free S M os) (hf : free ≤ 200) : ∀ o, o ∈ os → o.at_ ≤ 1000000 := by
  intro o ho
  obtain ⟨i, hi, rfl⟩ := List.getElem_of_mem ho
  have := (h.obj i _ (List.getElem?_eq_getElem hi)).fit
  omega
theorem LayO.un {free : Nat} {S : Nat → Bool} {M : Nat → Nat} {o : RO} (h : LayO free S M o) : UnOK (M o.at_) (M (o.at_ + 1)) ∧ hK (M (o.at_ + 1)) = o.kind ∧ hS (M (o.at_ + 1)) = 3 := by
  obtain ⟨a, b, c, -, -, d, e⟩ := unOK_packL false h.check (by omega)
  rw [h.cls, h.head, Int.toNat_of_nonneg d]
  exact ⟨a, b, c⟩
theorem Lays.good {free : Nat} {S : Nat → Bool} {M : Nat → Nat} {os : List RO} (h : Lays free S M os) (hf : free ≤ 200) : GoodH 200 S M := by
  intro a ha
  obtain ⟨i, o, ho, rfl⟩ := h.only a ha
  have hp := h.obj i o ho
  have h2 := hp.two; have h3 := hp.fit
  have hc := cellsR_of hp.check
  obtain ⟨u1, u2, u3⟩ := hp.un
  refine ⟨⟨by omega, by omega, ha, u1⟩, fun hk => ?_⟩
  rw [u2] at hk
  rw [if_neg hk] at hc
  rw [u3]
  show o.at_ + 2 + 3 ≤ 200
  omega
end Go.Proofs.YtobajnodckiohaaDoor
namespace Go.Proofs.YtobajnodckiohaaDoor
open Go.RowKit
set_option linter.unusedVariables false
theorem WordsAt.at {w : World} {v : Value} {l : List Nat} (h : WordsAt w v l) : ∃ a cap, v = .slice a l.length cap ∧ l.length ≤ cap ∧ cap ≤ maxLen ∧ ∀ i, i < l.length → ∃ b o, a = some ⟨b, o, none⟩ ∧ b < w.heap.size ∧ w.cell? ⟨b, o + i, none⟩ = some (.int .u64 (l.getD i 0 : Int)) := by
  obtain ⟨a, cap, rfl, h1, h2, h3, h4⟩ := h
  refine ⟨a, cap, rfl, h1, h2, fun i hi => ?_⟩
  have hw : (wordVals l)[i]? = some (.int .u64 (l.getD i 0 : Int)) := by
    simp [wordVals, List.getElem?_map, List.getD_eq_getElem?_getD, List.getElem?_eq_getElem hi]
  rcases h3 with h3 | ⟨b, o, rfl, hc⟩
  · have : (wordVals l).length = 0 := by rw [h3]; rfl
    rw [wordVals_length] at this; omega
  · have := hc i (by rw [wordVals_length]; exact hi)
    exact ⟨b, o, rfl, lt_of_cell (this.trans hw), this.trans hw⟩
set_option maxRecDepth 100000 in
theorem leadc_any (Bg Bn Bp nx : Nat) (kv lv pv : Value) (ls ps : List Nat) (w : World) (hg : w.heap[Bg]? = some (.cells #[kv, lv] 25 (0, 0))) (hl : WordsAt w lv ls) (hls : ∀ x, x ∈ ls → x < 18446744073709551616)
    (hn : w.heap[Bn]? = some (.cells #[.int .i64 (nx : Int)] 3 (0, 0))) (hnx : nx < 1000) (hp : w.heap[Bp]? = some (.cells #[pv] 23 (0, 0))) (hpw : WordsAt w pv ps) (hps : ∀ x, x ∈ ps → x < 18446744073709551616) (hp0 : 0 < ps.length) (hp1 : ps.length ≤ 1000) :
    Calls Tryd.prog 17 #[.pointer (some ⟨Bg, 0, none⟩), .pointer (some ⟨Bn, 0, none⟩), .pointer (some ⟨Bp, 0, none⟩)] w fun e w' => ∃ x nx' : Nat, e = .returned (.int .u64 (x : Int)) ∧ x < 18446744073709551616 ∧ nx' ≤ nx + 1 ∧ w'.heap[Bn]? = some (.cells #[.int .i64 (nx' : Int)] 3 (0, 0)) ∧ w'.heap.size = w.heap.size ∧ (∀ q, q ≠ Bn → w'.heap[q]? = w.heap[q]?) ∧ Below Bn w w' := by
  obtain ⟨la, lc, rfl, l1, l2, l3⟩ := hl.at
  obtain ⟨pa, pc, rfl, p1, p2, p3⟩ := hpw.at
  have hne1 : Bp ≠ Bn := fun e => by subst e; rw [hp] at hn; simp at hn
  have hne2 : ∀ k b o, k < ps.length → pa = some ⟨b, o, none⟩ → b ≠ Bn := by
    intro k b o hk hpa e
    obtain ⟨b', o', hpa', -, hc⟩ := p3 0 (by omega)
    rw [hpa] at hpa'; simp at hpa'
    obtain ⟨rfl, rfl⟩ := hpa'
    subst e
    rw [cellO hn] at hc
    obtain ⟨h1, h2⟩ := Array.getElem?_eq_some_iff.1 hc
    simp at h2
  have g1 := cellO hg 1
  have n0 := cellO hn 0
  have q0 := cellO hp 0
  have nf : w.frozen? ⟨Bn, 0, none⟩ = false := by unfold World.frozen?; rw [hn]; rfl
  simp at g1 n0 q0
  unfold maxLen at l2 p2
  have HN := Lib.hid hn; have HL := Lib.hid hls; have HP := Lib.hid hps; have L3 := Lib.hid l3; have P3 := Lib.hid p3
  clear hg hl hn hp hpw hls hps l3 p3
  by_cases h0 : ls.length = 0
  · go_enter Tryd.func17, Tryd.ntmps17
    go_wp2_with fail
    exact bodyPost_ret (v := .int .u64 1) (by simp [results, Tryd.results17, go_sem]) rfl ⟨1, nx, rfl, by omega, by omega, HN.out, rfl, fun _ _ => rfl, Below.refl _ _⟩
  · have hr0 : 0 ≤ (nx : Int) % (ls.length : Int) := Int.emod_nonneg _ (by omega)
    have hr1 : (nx : Int) % (ls.length : Int) < ls.length := Int.emod_lt_of_pos _ (by omega)
    obtain ⟨i, hi⟩ : ∃ i : Nat, (nx : Int) % (ls.length : Int) = (i : Int) := ⟨((nx : Int) % (ls.length : Int)).toNat, by omega⟩
    obtain ⟨b, o, rfl, hb, c0⟩ := L3.out i (by omega)
    have hx : ls.getD i 0 < 18446744073709551616 := by
      rw [List.getD_eq_getElem?_getD, List.getElem?_eq_getElem (show i < ls.length by omega)]
      exact HL.out _ (List.getElem_mem _)
    obtain ⟨x, hxe⟩ : ∃ x, ls.getD i 0 = x := ⟨_, rfl⟩
    rw [hxe] at c0 hx
    go_enter Tryd.func17, Tryd.ntmps17
    go_upto_region 3 with fail
    go_region
    all_goals (go_upto_if 21 with fail)
    obtain ⟨w1, hw1⟩ : ∃ w1, w1 = (w.setCell ⟨Bn, 0, none⟩ (.int .i64 ((nx : Int) + 1))).drew := ⟨_, rfl⟩
    rw [← hw1]
    have hn1 : w1.heap[Bn]? = some (.cells #[.int .i64 ((nx + 1 : Nat) : Int)] 3 (0, 0)) := by rw [hw1, drewHeap]; exact heap_setCell_same _ _ _ _ _ _ HN.out
    have hq1 : ∀ q, q ≠ Bn → w1.heap[q]? = w.heap[q]? := fun q hq => by rw [hw1, drewHeap, Below.heap_setCell _ _ _ _ hq]
    have hz1 : w1.heap.size = w.heap.size := by rw [hw1, drewHeap]; simp [World.setCell]
    have hb1 : Below Bn w w1 := by rw [hw1]; exact ((Below.refl Bn w).setCell (p := ⟨Bn, 0, none⟩) (Nat.le_refl _) _).drew
    have q1 : w1.cell? ⟨Bp, 0, none⟩ = some (.slice pa ps.length pc) := (World.cell?_of_block (w := w) (a := ⟨Bp, 0, none⟩) (hq1 Bp hne1)).trans q0
    have N1 := Lib.hid hn1; have Q1 := Lib.hid hq1; have B1 := Lib.hid hb1; have Z1 := Lib.hid hz1
    clear hn1 hq1 hb1 hw1 q0 n0 nf g1 hz1
    by_cases hx1 : 1000 < (x : Int)
    · go_wp2_with fail
      exact bodyPost_ret (v := .int .u64 (x : Int)) (by simp [results, Tryd.results17, go_sem]) rfl ⟨x, nx + 1, rfl, hx, Nat.le_refl _, N1.out, Z1.out, Q1.out, B1.out⟩
    · have hs0 : 0 ≤ (x : Int) % (ps.length : Int) := Int.emod_nonneg _ (by omega)
      have hs1 : (x : Int) % (ps.length : Int) < ps.length := Int.emod_lt_of_pos _ (by omega)
      obtain ⟨k, hk⟩ : ∃ k : Nat, (x : Int) % (ps.length : Int) = (k : Int) := ⟨((x : Int) % (ps.length : Int)).toNat, by omega⟩
      obtain ⟨pb, po, rfl, hpb, d0⟩ := P3.out k (by omega)
      have hy : ps.getD k 0 < 18446744073709551616 := by
        rw [List.getD_eq_getElem?_getD, List.getElem?_eq_getElem (show k < ps.length by omega)]
        exact HP.out _ (List.getElem_mem _)
      have d1 := (World.cell?_of_block (w := w) (a := ⟨pb, po + k, none⟩) (Q1.out pb (hne2 k pb po (by omega) rfl))).trans d0
      obtain ⟨y, hye⟩ : ∃ y, ps.getD k 0 = y := ⟨_, rfl⟩
      rw [hye] at d0 d1 hy
      clear d0 c0
      go_upto_region 7 with fail
      go_region
      all_goals (go_wp2_with fail)
      all_goals exact bodyPost_ret (v := .int .u64 (y : Int)) (by simp [results, Tryd.results17, go_sem]) rfl ⟨y, rfl, hy, nx + 1, Nat.le_refl _, N1.out, Z1.out, Q1.out, B1.out.drew⟩
end Go.Proofs.YtobajnodckiohaaDoor
namespace Go.Proofs.YtobajnodckiohaaDoor
open Go.RowKit
set_option linter.unusedVariables false
theorem HeapLt.far {w w' : World} {h C : Nat} (hl : HeapLt w h C) (hq : ∀ q, q < C → w'.heap[q]? = w.heap[q]?) : HeapLt w' h C := by
  obtain ⟨g, s, r, N, N', m, c, x1, x3, y0, cg, h1, h2, h3, l1, l2, l3, l4⟩ := hl
  exact ⟨g, s, r, N, N', m, c, x1, x3, y0, cg, (hq h l1).trans h1, (hq s l3).trans h2, (hq g l2).trans h3, l1, l2, l3, l4⟩
theorem HeapAt.far {w w' : World} {B h N free C : Nat} {S : Nat → Bool} {M : Nat → Nat} (H : HeapAt w B h N free S M) (hl : HeapLt w h C) (hq : ∀ q, q < C → w'.heap[q]? = w.heap[q]?) : HeapAt w' B h N free S M := by
  obtain ⟨g, s, h1, h2, h3, h3', h4, h5, h6, h7, h8⟩ := H
  obtain ⟨r, cap, m, ws, f, k1, k2, k3, k4, k5, k6, k7, k8, k9⟩ := h8
  obtain ⟨g', s', r', n, n', m', c', x1, x3, y0, cg, e1, e2, e3, l1, l2, l3, l4⟩ := hl
  rw [h5] at e1
  simp at e1
  obtain ⟨⟨rfl, -, -⟩, -, rfl, -⟩ := e1
  rw [k5] at e2
  simp at e2
  obtain ⟨-, rfl, -, -⟩ := e2
  exact ⟨g, s, h1, h2, h3, h3', h4, (hq h l1).trans h5, h6.of_block (hq g l2), h7, r, cap, m, ws, f, k1, k2, k3, k4, (hq s l3).trans k5, k6, k7, k8.of_block (hq r l4), k9⟩
structure LayMem (w0 : World) (E C h D P N : Nat) (kv gv pv : Value) (ps : List Nat) (nx : Nat) (lv : Value) (os : List RO) (free : Nat) (S : Nat → Bool) (M : Nat → Nat) (w : World) : Prop where
  g : w.heap[w0.heap.size]? = some (.cells #[kv, gv] 25 (0, 0))
  r : w.heap[w0.heap.size + 1]? = some (.cells #[.int .i64 0, .slice none 0 0, .int .u32 0] 31 (0, 0))
  H : HeapAt w (w0.heap.size + 2) h 200 free S M
  lt : HeapLt w h C
  d : w.heap[D]? = some (.cells #[.int .i64 200, lv, .int .u32 0] 31 (0, 0))
  p : w.heap[P]? = some (.cells #[pv] 23 (0, 0))
  pw : WordsAt w pv ps
  pu : ∀ b o n c, pv = .slice (some ⟨b, o, none⟩) n c → P < b ∧ b < N
  n : w.heap[N]? = some (.cells #[.int .i64 (nx : Int)] 3 (0, 0))
  ro : RObjs E w lv os
  below : Below w0.heap.size w0 w
  ord : w0.heap.size + 2 ≤ C ∧ C ≤ D ∧ D < P ∧ P < N ∧ N < E ∧ E ≤ w.heap.size
theorem RowAt.keep {n c : Nat} {w w' : World} {a : Option Addr} {xs : List Value} (h : RowAt w a xs) (ho : ∀ b o, a = some ⟨b, o, none⟩ → w'.heap[b]? = w.heap[b]?) : RowAt w' a xs := by
  rcases h with h | ⟨b, o, ha, hc⟩
  · exact Or.inl h
  · exact Or.inr ⟨b, o, ha, fun j hj => by rw [← hc j hj]; exact World.cell?_of_block (ho b o ha)⟩
theorem WordsAt.keep {w w' : World} {v : Value} {l : List Nat} (h : WordsAt w v l) (ho : ∀ b o n c, v = .slice (some ⟨b, o, none⟩) n c → w'.heap[b]? = w.heap[b]?) : WordsAt w' v l := by
  obtain ⟨a, cap, rfl, h1, h2, h3, h4⟩ := h
  exact ⟨a, cap, rfl, h1, h2, h3.keep (n := 0) (c := 0) (fun b o e => ho b o _ _ (by rw [e])), h4⟩
section
variable {w0 w w' w1 : World} {E C h D P N : Nat} {kv gv pv : Value} {ps : List Nat} {nx nx' : Nat} {lv lv' : Value} {os os' : List RO} {free free' : Nat} {S S' : Nat → Bool} {M M' : Nat → Nat}
theorem LayMem.heap (m : LayMem w0 E C h D P N kv gv pv ps nx lv os free S M w) (H' : HeapAt w' (w0.heap.size + 2) h 200 free' S' M') (hb : Below (w0.heap.size + 2) w w') (hs : Stays h w w') : LayMem w0 E C h D P N kv gv pv ps nx lv os free' S' M' w' := by
  obtain ⟨g, r, H, lt, d, p, pw, pu, n, ro, below, o1, o2, o3, o4, o5, o6⟩ := m
  obtain ⟨lt', far⟩ := hs.2 C lt
  have hz := hs.1
  exact ⟨(hb.block _ (by omega)).trans g, (hb.block _ (by omega)).trans r, H', lt', (far D (by omega) (by omega)).trans d, (far P (by omega) (by omega)).trans p,
    pw.keep fun b o n c e => far b (by have := pu b o n c e; omega) (by have := pu b o n c e; omega), pu, (far N (by omega) (by omega)).trans n, ro.stays fun q h1 h2 => far q (by omega) h2, below.trans (hb.mono (by omega)), o1, o2, o3, o4, o5, by omega⟩
theorem LayMem.later (m : LayMem w0 E C h D P N kv gv pv ps nx lv os free S M w) (hb : Below w.heap.size w w') : LayMem w0 E C h D P N kv gv pv ps nx lv os free S M w' := by
  obtain ⟨g, r, H, lt, d, p, pw, pu, n, ro, below, o1, o2, o3, o4, o5, o6⟩ := m
  have hz := hb.size; have hz0 := below.size
  exact ⟨(hb.block _ (by omega)).trans g, (hb.block _ (by omega)).trans r, H.later hb, lt.far fun q hq => hb.block q (by omega), (hb.block D (by omega)).trans d, (hb.block P (by omega)).trans p,
    pw.later hb, pu, (hb.block N (by omega)).trans n, ro.later hb, below.trans (hb.mono hz0), o1, o2, o3, o4, o5, by omega⟩
theorem LayMem.next (m : LayMem w0 E C h D P N kv gv pv ps nx lv os free S M w) (hn : w'.heap[N]? = some (.cells #[.int .i64 (nx' : Int)] 3 (0, 0))) (hz : w'.heap.size = w.heap.size) (hq : ∀ q, q ≠ N → w'.heap[q]? = w.heap[q]?) (hb : Below N w w') :
    LayMem w0 E C h D P N kv gv pv ps nx' lv os free S M w' := by
  obtain ⟨g, r, H, lt, d, p, pw, pu, n, ro, below, o1, o2, o3, o4, o5, o6⟩ := m
  have hC : ∀ q, q < C → w'.heap[q]? = w.heap[q]? := fun q h1 => hq q (by omega)
  exact ⟨(hq _ (by omega)).trans g, (hq _ (by omega)).trans r, H.far lt hC, lt.far hC, (hq _ (by omega)).trans d, (hq _ (by omega)).trans p, pw.keep fun b o n c e => hq b (by have := pu b o n c e; omega), pu, hn,
    ro.stays fun q h1 h2 => hq q (by omega), below.trans (hb.mono (by omega)), o1, o2, o3, o4, o5, by omega⟩
theorem LayMem.doc (m : LayMem w0 E C h D P N kv gv pv ps nx lv os free S M w1) (ro' : RObjs E w1 lv' os') (hd : w'.heap[D]? = some (.cells #[.int .i64 200, lv', .int .u32 0] 31 (0, 0))) (hz : w'.heap.size = w1.heap.size) (hq : ∀ q, q ≠ D → w'.heap[q]? = w1.heap[q]?) (hb : Below D w1 w') :
    LayMem w0 E C h D P N kv gv pv ps nx lv' os' free S M w' := by
  obtain ⟨g, r, H, lt, d, p, pw, pu, n, ro, below, o1, o2, o3, o4, o5, o6⟩ := m
  have hC : ∀ q, q < C → w'.heap[q]? = w1.heap[q]? := fun q h1 => hq q (by omega)
  exact ⟨(hq _ (by omega)).trans g, (hq _ (by omega)).trans r, H.far lt hC, lt.far hC, hd, (hq _ (by omega)).trans p, pw.keep fun b o n c e => hq b (by have := pu b o n c e; omega), pu, (hq _ (by omega)).trans n,
    ro'.stays fun q h1 h2 => hq q (by omega), below.trans (hb.mono (by omega)), o1, o2, o3, o4, o5, by omega⟩
end
theorem halloc_both (B h free c : Nat) (k : Int) (S : Nat → Bool) (M : Nat → Nat) (w : World) (H : HeapAt w B h 200 free S M) (hB : B ≤ w.heap.size) (hc : c < 18446744073709551616) (hz : checkZ (c : Int) k 3 0 = 0) (hfit : free + 5 ≤ 200) (h2 : 2 ≤ free) :
    Calls Tryd.prog 13 #[.pointer (some ⟨h, 0, none⟩), .int .u64 (c : Int), .int .i64 k, .int .i64 3, .int .u64 1] w fun e w' => ∃ M', e = .returned (.tuple #[.int .u64 (free * 2 : Int), .int .i64 0]) ∧ HeapAt w' B h 200 (free + 2 + (if k = 2 then 1 else 3)) (setS 200 S (free : Int) true) M' ∧
      (∀ j, j < free → M' j = M j) ∧ M' free = c ∧ M' (free + 1) = (packZ k 3 0 false).toNat ∧ (k ≠ 2 → ∀ i, i < 3 → M' (free + 2 + i) = 1) ∧ (∀ j, free + 2 + (if k = 2 then 0 else 3) ≤ j → M' j = M j) ∧ Below B w w' ∧ Stays h w w' := by
  by_cases hk : k = 2
  · subst hk
    refine (raw_only B h 200 free c 3 1 S M w H hB hc hz (by omega) h2).mono ?_
    rintro e w' ⟨rfl, h1, h3, h4⟩
    refine ⟨_, rfl, h1, fun j hj => ?_, ?_, ?_, fun e => absurd rfl e, fun j hj => ?_, h3, h4⟩
    · unfold put2; rw [if_neg (by omega), if_neg (by omega)]
    · unfold put2; rw [if_pos rfl]
    · unfold put2; rw [if_neg (by omega), if_pos rfl]; rfl
    · rw [if_pos rfl] at hj
      unfold put2; rw [if_neg (by omega), if_neg (by omega)]
  · refine (slots_only B h 200 free c 3 1 k S M w H hB hc hz hk (by omega) (by omega) h2).mono ?_
    rintro e w' ⟨rfl, h1, h3, h4⟩
    refine ⟨fillM (put2 M free c (packZ k (3 : Nat) 0 false).toNat) (free + 2) 3 1, rfl, ?_, fun j hj => ?_, ?_, ?_, fun _ i hi => ?_, fun j hj => ?_, h3, h4⟩
    · rw [if_neg hk]; exact h1
    · unfold fillM put2; rw [if_neg (by omega), if_neg (by omega), if_neg (by omega)]
    · unfold fillM put2; rw [if_neg (by omega), if_pos rfl]
    · unfold fillM put2; rw [if_neg (by omega), if_neg (by omega), if_pos rfl]; rfl
    · unfold fillM; rw [if_pos ⟨by omega, by omega⟩]
    · rw [if_neg hk] at hj
      unfold fillM put2; rw [if_neg (by omega), if_neg (by omega), if_neg (by omega)]
end Go.Proofs.YtobajnodckiohaaDoor
