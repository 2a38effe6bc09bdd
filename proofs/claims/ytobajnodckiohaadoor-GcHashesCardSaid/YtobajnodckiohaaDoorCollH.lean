/- Memory behind a collection is good memory, of which all is led to: the plain law. Memory behind a collection, in as many cells as one likes; images of it. -/
import Derived.Test.YtobajnodckiohaaDoorCollF
import Derived.Test.YtobajnodckiohaaDoorLoadF
import Derived.Test.YtobajnodckiohaaDoorOrdA
namespace Go.Proofs.YtobajnodckiohaaDoor
open Go.RowKit
set_option linter.unusedVariables false
theorem cells_cz {M : Nat → Nat} {a : Nat} (hh : hH (M (a + 1)) = 0) : cellsM M a = Go.Proofs.YtobajnodckiohaaDoor.cz M a := by unfold cellsM Go.Proofs.YtobajnodckiohaaDoor.cz; rw [hh]
theorem Lays.gap {free : Nat} {S : Nat → Bool} {M : Nat → Nat} {os : List RO} (h : Lays free S M os) {i j : Nat} {o : RO} (ho : os[i]? = some o) (h1 : o.at_ < j) (h2 : j < o.at_ + 2 + cellsR o) : S j = false := by
  cases hS : S j with
  | false => rfl
  | true =>
    obtain ⟨k, p, hp, rfl⟩ := h.only j hS
    by_cases hki : k = i
    · subst hki; rw [ho] at hp; injection hp with hp; subst hp; omega
    · rcases h.at_lt hp ho hki with h3 | h3 <;> omega
theorem Lays.low {free : Nat} {S : Nat → Bool} {M : Nat → Nat} {os : List RO} (h : Lays free S M os) {j : Nat} (hj : j < 2 ∨ free ≤ j) : S j = false := by
  cases hS : S j with
  | false => rfl
  | true =>
    obtain ⟨k, p, hp, rfl⟩ := h.only j hS
    have h1 := (h.obj k p hp).two
    have h2 := (h.obj k p hp).fit
    omega
theorem LayO.cz {free : Nat} {S : Nat → Bool} {M : Nat → Nat} {o : RO} (h : LayO free S M o) : cz M o.at_ = cellsR o := by
  obtain ⟨⟨-, hh, -⟩, hc⟩ := h.stands
  rw [← hc, cells_cz hh]
theorem Lays.ksum {free : Nat} {S : Nat → Bool} {M : Nat → Nat} {os : List RO} (h : Lays free S M os) (i : Nat) (hi : i ≤ os.length) : 2 + ksum M S (usedR (os.take i)) = usedR (os.take i) := by
  induction i with
  | zero =>
    show 2 + Go.Proofs.YtobajnodckiohaaDoor.ksum M S 2 = 2
    rw [show Go.Proofs.YtobajnodckiohaaDoor.ksum M S 2 = Go.Proofs.YtobajnodckiohaaDoor.ksum M S (0 + 2) by rfl, (skip_all (M := M) (T := S) (n := 0) (d := 2) (fun j _ h2 => h.low (by omega))).2.2.1]
    rfl
  | succ i ih =>
    have hl : i < os.length := by omega
    have hg := List.getElem?_eq_getElem hl
    obtain ⟨o, ho⟩ : ∃ o, os[i] = o := ⟨_, rfl⟩
    rw [ho] at hg
    have hL := h.obj i o hg
    have hn := h.next i o hg
    have ih' := ih (by omega)
    rw [List.take_succ_eq_append_getElem hl, ho, usedR_snoc]
    rw [← hn] at ih'
    have hS : S o.at_ = true := hL.here
    have h1 : Go.Proofs.YtobajnodckiohaaDoor.ksum M S (o.at_ + 1) = Go.Proofs.YtobajnodckiohaaDoor.ksum M S o.at_ + (2 + Go.Proofs.YtobajnodckiohaaDoor.cz M o.at_) := by show Go.Proofs.YtobajnodckiohaaDoor.ksum M S o.at_ + (if S o.at_ = true then _ else _) = _; rw [if_pos hS]
    have h2 := (skip_all (M := M) (T := S) (n := o.at_ + 1) (d := 1 + cellsR o) (fun j a b => h.gap hg (by omega) (by omega))).2.2.1
    rw [show o.at_ + 2 + cellsR o = o.at_ + 1 + (1 + cellsR o) by omega, h2, h1, hL.cz]
    omega
theorem Lays.ksumN {N free : Nat} {S : Nat → Bool} {M : Nat → Nat} {os : List RO} (h : Lays free S M os) (hf : free ≤ N) : 2 + Go.Proofs.YtobajnodckiohaaDoor.ksum M S N = free := by
  have h1 := h.ksum os.length (Nat.le_refl _)
  rw [List.take_length, h.used] at h1
  obtain ⟨d, rfl⟩ : ∃ d, N = free + d := ⟨N - free, by omega⟩
  rw [(skip_all (M := M) (T := S) (n := free) (d := d) (fun j a b => h.low (by omega))).2.2.1]
  exact h1
theorem Lays.coll {N free : Nat} {S : Nat → Bool} {M : Nat → Nat} {os : List RO} (h : Lays free S M os) (hf : free ≤ N) (hN : N ≤ 16777216) (hsm : ∀ i, M i < 18446744073709551616) : CollOK N S M := by
  have hno : ∀ a, S a = true → hH (M (a + 1)) = 0 := fun a ha => by
    obtain ⟨i, o, ho, rfl⟩ := h.only a ha
    exact (h.obj i o ho).stands.1.2.1
  refine ⟨fun a ha => ?_, hsm, hN, by rw [h.ksumN hf]; exact hf, fun a b ha _ _ h0 => absurd (hno a ha) h0, by rw [h.zero 16777216 (by omega)]; omega⟩
  obtain ⟨i, o, ho, rfl⟩ := h.only a ha
  have hL := h.obj i o ho
  obtain ⟨⟨u, hh, -⟩, -⟩ := hL.stands
  obtain ⟨-, u2, u3⟩ := hL.un
  have hc := hL.cz
  have hfit := hL.fit
  exact ⟨hL.two, by omega, u, by rw [hh]; omega, by omega, fun hk => ⟨u3, hL.tail (by rw [← u2]; exact hk)⟩⟩
abbrev newS (N : Nat) (M : Nat → Nat) (T : Nat → Bool) : Nat → Bool := setAll N (fun _ => false) (plW M T N)
section
variable {N : Nat} {S T : Nat → Bool} {M : Nat → Nat} {R : List Nat}
theorem npl_fit (c : CollOK N S M) (h : Stay S M R T) {a : Nat} (ha : T a = true) : npl M T a + 2 + cz M a ≤ N ∧ npl M T a + 2 + cz M a ≤ 2 + ksum M T N ∧ 2 ≤ npl M T a ∧ npl M T a < 16777216 := by
  have h1 := ksum_obj (M := M) (c.lt (h.sub ha)).1 ha
  have h2 := h.room c
  have h3 := c.most
  unfold npl; omega
theorem newS_iff (c : CollOK N S M) (h : Stay S M R T) {x : Nat} : newS N M T x = true ↔ ∃ a, T a = true ∧ x = npl M T a := by
  have hlt : ∀ y ∈ plW M T N, y < N := fun y hy => by
    obtain ⟨a, -, h2, rfl⟩ := plW_mem.1 hy
    have := (npl_fit c h h2).1
    unfold npl at this; omega
  unfold newS
  rw [setAll_iff N _ _ _ hlt, plW_mem]
  constructor
  · rintro (⟨a, -, h2, h3⟩ | h2)
    · exact ⟨a, h2, h3⟩
    · cases h2
  · rintro ⟨a, h2, h3⟩
    exact Or.inl ⟨a, (c.lt (h.sub h2)).1, h2, h3⟩
theorem new_size (c : CollOK N S M) (h : Stay S M R T) {a : Nat} (ha : T a = true) : hS (newM N M T (npl M T a + 1)) = hS (M (a + 1)) := by
  rw [new_head c h ha]
theorem new_goodH (c : CollOK N S M) (h : Stay S M R T) : GoodH N (newS N M T) (newM N M T) := by
  intro x hx
  obtain ⟨a, ha, rfl⟩ := (newS_iff c h).1 hx
  obtain ⟨f1, -, f2, -⟩ := npl_fit c h ha
  refine ⟨⟨by omega, by omega, hx, new_un c h ha⟩, fun hk => ?_⟩
  rw [new_size c h ha]
  rw [new_head c h ha] at hk
  obtain ⟨-, -, u, -, -, h3⟩ := c.obj a (h.sub ha)
  have hz := cz3 u (c.small _) h3
  rw [if_neg hk] at hz
  omega
theorem new_wordsA (c : CollOK N S M) (h : Stay S M R T) {a : Nat} (ha : T a = true) : wordsA (newM N M T) (npl M T a) = (wordsA M a).map (turnM M T) := by
  obtain ⟨-, -, u, -, -, h3⟩ := c.obj a (h.sub ha)
  have hz := cz3 u (c.small _) h3
  unfold wordsA
  rw [new_cls c h ha, new_head c h ha, List.map_cons]
  by_cases hk : hK (M (a + 1)) = 2
  · rw [if_pos hk, if_pos hk]; rfl
  · rw [if_neg hk, if_neg hk, List.map_map]
    rw [if_neg hk] at hz
    congr 1
    apply List.map_congr_left
    intro i hi
    have hi3 := List.mem_range.1 hi
    have := new_word c h ha (i := i) (by omega)
    rw [if_neg hk] at this
    exact this
/-- what a word that is led to becomes -/
theorem turn_in (c : CollOK N S M) (h : Stay S M R T) {x : Nat} (hx : Wd S M R x) : (x = 0 ∧ turnM M T x = 0) ∨ (x % 2 = 1 ∧ turnM M T x = x) ∨ ∃ a, x = a * 2 ∧ T a = true ∧ turnM M T x = npl M T a * 2 := by
  by_cases h0 : x = 0
  · subst h0; exact Or.inl ⟨rfl, turn_zero M T⟩
  · by_cases h1 : x % 2 = 1
    · exact Or.inr (Or.inl ⟨h1, turn_odd M T h1⟩)
    · have hobj : x / 2 < 16777216 ∧ S (x / 2) = true := Classical.byContradiction fun hh => h.good ⟨x, hx, h0, by omega, hh⟩
      obtain ⟨a, rfl⟩ : ∃ a, x = a * 2 := ⟨x / 2, by omega⟩
      rw [show a * 2 / 2 = a by omega] at hobj
      have hT : T a = true := (h.iff a).2 ⟨hx, hobj.2⟩
      exact Or.inr (Or.inr ⟨a, rfl, hT, turn_obj (by omega) hobj.1 hT⟩)
theorem new_wd (c : CollOK N S M) (h : Stay S M R T) {x : Nat} (hx : Wd S M R x) : Wd (newS N M T) (newM N M T) (R.map (turnM M T)) (turnM M T x) := by
  induction hx with
  | root hx => exact Wd.root (List.mem_map_of_mem hx)
  | @step a y hw hs hy ih =>
    have hT : T a = true := (h.iff a).2 ⟨hw, hs⟩
    rw [turn_obj (by have := (c.lt hs).2.2; omega) (c.lt hs).2.1 hT] at ih
    exact Wd.step ih ((newS_iff c h).2 ⟨a, hT, rfl⟩) (by rw [new_wordsA c h hT]; exact List.mem_map_of_mem hy)
theorem new_wd_back (c : CollOK N S M) (h : Stay S M R T) {y : Nat} (hy : Wd (newS N M T) (newM N M T) (R.map (turnM M T)) y) : ∃ x, Wd S M R x ∧ y = turnM M T x := by
  induction hy with
  | root hy =>
    obtain ⟨x, hx, rfl⟩ := List.mem_map.1 hy
    exact ⟨x, Wd.root hx, rfl⟩
  | @step b y hw hs hy ih =>
    obtain ⟨x, hx, hbx⟩ := ih
    obtain ⟨d, hd, hdb⟩ := (newS_iff c h).1 hs
    have hb2 := (npl_fit c h hd).2.2.1
    rcases turn_in c h hx with ⟨-, h1⟩ | ⟨h0, h1⟩ | ⟨a, rfl, hT, h1⟩
    · omega
    · omega
    · have hba : b = npl M T a := by omega
      rw [hba, new_wordsA c h hT] at hy
      obtain ⟨z, hz, rfl⟩ := List.mem_map.1 hy
      exact ⟨z, Wd.step hx (h.sub hT) hz, rfl⟩
/-- behind it all is led to, and nothing is loose -/
theorem new_stay (c : CollOK N S M) (h : Stay S M R T) : Stay (newS N M T) (newM N M T) (R.map (turnM M T)) (newS N M T) := by
  refine ⟨fun x => ⟨fun hx => ⟨?_, hx⟩, fun hx => hx.2⟩, ?_⟩
  · obtain ⟨a, ha, rfl⟩ := (newS_iff c h).1 hx
    have := new_wd c h ((h.iff a).1 ha).1
    rw [turn_obj (by have := (c.lt (h.sub ha)).2.2; omega) (c.lt (h.sub ha)).2.1 ha] at this
    exact this
  · rintro ⟨y, hy, y0, y1, y2⟩
    obtain ⟨x, hx, rfl⟩ := new_wd_back c h hy
    rcases turn_in c h hx with ⟨-, h1⟩ | ⟨h0, h1⟩ | ⟨a, rfl, hT, h1⟩
    · exact y0 h1
    · rw [h1] at y1; omega
    · rw [h1, show npl M T a * 2 / 2 = npl M T a by omega] at y2
      exact y2 ⟨(npl_fit c h hT).2.2.2, (newS_iff c h).2 ⟨a, hT, rfl⟩⟩
theorem setAll_snoc (N : Nat) : ∀ (l : List Nat) (S : Nat → Bool) (x : Nat), setAll N S (l ++ [x]) = setS N (setAll N S l) (x : Int) true
  | [], _, _ => rfl
  | y :: l, S, x => setAll_snoc N l _ x
theorem new_counts (c : CollOK N S M) (h : Stay S M R T) : cnt (newS N M T) N = cnt T N ∧ ksum (newM N M T) (newS N M T) N = ksum M T N := by
  have key : ∀ n, n ≤ N → cnt (setAll N (fun _ => false) (plW M T n)) N = cnt T n ∧ ksum (newM N M T) (setAll N (fun _ => false) (plW M T n)) N = ksum M T n := by
    intro n
    induction n with
    | zero =>
      intro _
      have hz : ∀ m, ksum (newM N M T) (fun _ => false) m = 0 := fun m => by
        induction m with
        | zero => rfl
        | succ m ih => unfold ksum; rw [ih]; rfl
      have hc : ∀ m, cnt (fun _ => false) m = 0 := fun m => by
        induction m with
        | zero => rfl
        | succ m ih => unfold cnt; rw [ih]; rfl
      exact ⟨hc N, hz N⟩
    | succ n ih =>
      intro hn
      obtain ⟨i1, i2⟩ := ih (by omega)
      by_cases hT : T n = true
      · have hp : plW M T (n + 1) = plW M T n ++ [npl M T n] := by show plW M T n ++ (if T n = true then _ else _) = _; rw [if_pos hT]; rfl
        obtain ⟨f1, -, -, -⟩ := npl_fit c h hT
        have hlt : ∀ y ∈ plW M T n, y < N := fun y hy => by
          obtain ⟨a, -, h2, rfl⟩ := plW_mem.1 hy
          have := (npl_fit c h h2).1
          unfold npl at this; omega
        have hno : setAll N (fun _ => false) (plW M T n) (npl M T n) = false := by
          cases hq : setAll N (fun _ => false) (plW M T n) (npl M T n) with
          | false => rfl
          | true =>
            rcases (setAll_iff N _ _ _ hlt).1 hq with hm | hm
            · obtain ⟨a, h1, h2, h3⟩ := plW_mem.1 hm
              have := ksum_inj (M := M) hT h2 (by unfold npl at h3; omega)
              omega
            · cases hm
        rw [hp, setAll_snoc, cntset N _ _ (by omega) hno, ksum_set N _ _ _ _ (by omega) hno, if_pos (by omega), i1, i2, new_cz c h hT]
        constructor
        · show cnt T n + 1 = cnt T n + (T n).toNat; rw [hT]; rfl
        · show ksum M T n + (2 + cz M n) = ksum M T n + (if T n = true then _ else _); rw [if_pos hT]
      · have hp : plW M T (n + 1) = plW M T n := by show plW M T n ++ (if T n = true then _ else _) = _; rw [if_neg hT, List.append_nil]
        rw [hp, i1, i2]
        constructor
        · show cnt T n = cnt T n + (T n).toNat; rw [show T n = false by simpa using hT]; rfl
        · show ksum M T n = ksum M T n + (if T n = true then _ else _); rw [if_neg hT]; rfl
  exact key N (Nat.le_refl _)
theorem new_closed (c : CollOK N S M) (h : Stay S M R T) : ClosedP (newS N M T) (newM N M T) := by
  have hp : ∀ a, T a = true → PtrIn (newS N M T) (npl M T a * 2) = true := fun a ha => by
    obtain ⟨-, -, f3, f4⟩ := npl_fit c h ha
    unfold PtrIn
    rw [decide_eq_true (by omega), Bool.true_and, show npl M T a * 2 / 2 = npl M T a by omega]
    exact (newS_iff c h).2 ⟨a, ha, rfl⟩
  intro x hx
  obtain ⟨a, ha, rfl⟩ := (newS_iff c h).1 hx
  have hwa := ((h.iff a).1 ha).1
  obtain ⟨-, -, u, -, -, h3⟩ := c.obj a (h.sub ha)
  have hz := cz3 u (c.small _) h3
  obtain ⟨u1, u2, -⟩ := u
  refine ⟨?_, fun hk i hi => ?_⟩
  · rw [new_cls c h ha]
    have hwd : Wd S M R (M a) := Wd.step hwa (h.sub ha) (List.mem_cons_self)
    rcases turn_in c h hwd with ⟨h0, -⟩ | ⟨h0, -⟩ | ⟨b, -, hb, h1⟩
    · omega
    · omega
    · rw [h1]; exact hp b hb
  · rw [new_size c h ha] at hi
    rw [new_head c h ha] at hk
    rw [if_neg hk] at hz
    have hw := new_word c h ha (i := i) (by omega)
    rw [if_neg hk] at hw
    rw [hw]
    have hmem : M (a + 2 + i) ∈ wordsA M a := by
      unfold wordsA
      rw [if_neg hk]
      exact List.mem_cons_of_mem _ (List.mem_map.2 ⟨i, List.mem_range.2 (by omega), rfl⟩)
    have hwd : Wd S M R (M (a + 2 + i)) := Wd.step hwa (h.sub ha) hmem
    unfold WordIn
    rcases turn_in c h hwd with ⟨-, h1⟩ | ⟨h0, h1⟩ | ⟨b, -, hb, h1⟩
    · rw [h1]; rfl
    · rw [h1, decide_eq_true h0]; simp
    · rw [h1, hp b hb]; simp
end
/-- mark.Order: as many as are led to -/
theorem order_words (B0 h N free : Nat) (S : Nat → Bool) (M : Nat → Nat) (rs : List Nat) (xv : Value) (w : World) (H0 : HeapAt w B0 h N free S M) (hG : GoodH N S M) (hx : WordsAt w xv rs) (hrs : ∀ x, x ∈ rs → x < 18446744073709551616) (hl : rs.length ≤ 1000000) :
    Calls Tryd.prog 8 #[.pointer (some ⟨h, 0, none⟩), xv] w fun e w' => ((Bad S M rs ∧ e = .returned (.tuple #[.slice none 0 0, .int .i64 13])) ∨ (∃ T v l, Stay S M rs T ∧ e = .returned (.tuple #[v, .int .i64 0]) ∧ OwnsW w' w.heap.size v l ∧ l.length = cnt T N ∧ ∃ m, l = (ordQ N S M rs m).1.2.1 ∧ T = (ordQ N S M rs m).1.1 ∧ l.length = m)) ∧ Below w.heap.size w w' := by
  have hN : N ≤ 16777216 := by obtain ⟨g, s, -, -, h3, -⟩ := H0; exact h3
  obtain ⟨a, cap, rfl, h1, h2, h3⟩ := hx.at
  refine (order_gen B0 h N free S M rs a cap w H0 hG (fun i hi => ?_) h1 hl h2).mono ?_
  · have e : rs.getD i 1 = rs.getD i 0 := by rw [List.getD_eq_getElem?_getD, List.getD_eq_getElem?_getD, List.getElem?_eq_getElem hi]; rfl
    rw [e]
    refine ⟨?_, h3 i hi⟩
    rw [List.getD_eq_getElem?_getD, List.getElem?_eq_getElem hi]
    exact hrs _ (List.getElem_mem _)
  · rintro e w' ⟨m, hm, -, ⟨hq, rfl⟩ | ⟨hq, v, rfl, ho⟩, hg⟩
    · exact ⟨Or.inl ⟨(ord_inv hG m).inv.loose hq, rfl⟩, hg⟩
    · obtain ⟨e1, e2⟩ := ord_end hG hN (ord_inv hG m) hm hq
      exact ⟨Or.inr ⟨_, v, _, ⟨e2, e1⟩, rfl, ho, (ord_inv hG m).inv.len, m, rfl, rfl, hm⟩, hg⟩
end Go.Proofs.YtobajnodckiohaaDoor
namespace Go.Proofs.YtobajnodckiohaaDoor
open Go.RowKit
set_option linter.unusedVariables false
theorem usedL_loadM (ws : List Nat) : usedL (loadM ws) (2 + ws.length) = ws := by
  apply List.ext_getElem
  · rw [usedL_len]; omega
  · intro i h1 h2
    rw [usedL_len] at h1
    simp only [usedL, List.getElem_map, List.getElem_range]
    unfold loadM
    rw [if_pos ⟨by omega, by omega⟩, show 2 + i - 2 = i by omega, List.getD_eq_getElem?_getD, List.getElem?_eq_getElem h2]
    rfl
section
variable {N : Nat} {S T : Nat → Bool} {M : Nat → Nat} {R : List Nat}
theorem newS_low (c : CollOK N S M) (h : Stay S M R T) {x : Nat} (hx : newS N M T x = true) : 2 ≤ x ∧ x + 2 ≤ 2 + ksum M T N := by
  obtain ⟨a, ha, rfl⟩ := (newS_iff c h).1 hx
  have := npl_fit c h ha
  omega
theorem newS_any (c : CollOK N S M) (h : Stay S M R T) {N2 : Nat} (hN : 2 + ksum M T N ≤ N2) : setAll N2 (fun _ => false) (plW M T N) = newS N M T := by
  have hlt : ∀ y ∈ plW M T N, y < N2 := fun y hy => by
    obtain ⟨a, -, h2, rfl⟩ := plW_mem.1 hy
    have := (npl_fit c h h2).2.1
    unfold npl at this; omega
  funext x
  have h1 := setAll_iff N2 (plW M T N) (fun _ => false) x hlt
  have h2 : newS N M T x = true ↔ x ∈ plW M T N ∨ (fun _ => false) x = true := by
    rw [newS_iff c h, plW_mem]
    constructor
    · rintro ⟨a, ha, rfl⟩; exact Or.inl ⟨a, (c.lt (h.sub ha)).1, ha, rfl⟩
    · rintro (⟨a, -, ha, rfl⟩ | hf)
      · exact ⟨a, ha, rfl⟩
      · cases hf
  exact Bool.eq_iff_iff.2 (h1.trans h2.symm)
theorem new_goodN (c : CollOK N S M) (h : Stay S M R T) {N2 : Nat} (hN : 2 + ksum M T N ≤ N2) : GoodH N2 (newS N M T) (newM N M T) := by
  intro x hx
  obtain ⟨a, ha, rfl⟩ := (newS_iff c h).1 hx
  obtain ⟨-, f1, f2, -⟩ := npl_fit c h ha
  refine ⟨⟨by omega, by omega, hx, new_un c h ha⟩, fun hk => ?_⟩
  rw [new_size c h ha]
  rw [new_head c h ha] at hk
  obtain ⟨-, -, u, -, -, h3⟩ := c.obj a (h.sub ha)
  have hz := cz3 u (c.small _) h3
  rw [if_neg hk] at hz
  omega
theorem cnt_any (c : CollOK N S M) (h : Stay S M R T) {N2 : Nat} (hN : 2 + ksum M T N ≤ N2) : cnt (newS N M T) N2 = cnt T N := by
  have hr := h.room c
  have key : ∀ n, 2 + ksum M T N ≤ n → cnt (newS N M T) n = cnt (newS N M T) (2 + ksum M T N) := fun n hn => by
    obtain ⟨d, rfl⟩ : ∃ d, n = 2 + ksum M T N + d := ⟨n - (2 + ksum M T N), by omega⟩
    exact (skip_all (M := M) (T := newS N M T) (n := 2 + ksum M T N) (d := d) (fun j h1 _ => by
      cases hj : newS N M T j with
      | false => rfl
      | true => have := newS_low c h hj; omega)).2.2.2
  rw [key N2 hN, ← key N hr]
  exact (new_counts c h).1
theorem ksum_any (c : CollOK N S M) (h : Stay S M R T) {N2 : Nat} (hN : 2 + ksum M T N ≤ N2) : ksum (newM N M T) (newS N M T) N2 = ksum M T N := by
  have hr := h.room c
  have key : ∀ n, 2 + ksum M T N ≤ n → ksum (newM N M T) (newS N M T) n = ksum (newM N M T) (newS N M T) (2 + ksum M T N) := fun n hn => by
    obtain ⟨d, rfl⟩ : ∃ d, n = 2 + ksum M T N + d := ⟨n - (2 + ksum M T N), by omega⟩
    exact (skip_all (M := newM N M T) (T := newS N M T) (n := 2 + ksum M T N) (d := d) (fun j h1 _ => by
      cases hj : newS N M T j with
      | false => rfl
      | true => have := newS_low c h hj; omega)).2.2.1
  rw [key N2 hN, ← key N hr]
  exact (new_counts c h).2
theorem Stay.unique {T2 : Nat → Bool} (h : Stay S M R T) (h2 : Stay S M R T2) : T2 = T := by
  funext a
  exact Bool.eq_iff_iff.2 ((h2.iff a).trans (h.iff a).symm)
end
theorem cnt_pos {T : Nat → Bool} : ∀ {N : Nat}, 0 < cnt T N → ∃ a, T a = true
  | N + 1, h => by
    cases hT : T N with
    | true => exact ⟨N, hT⟩
    | false =>
      have h1 : cnt T (N + 1) = cnt T N + (T N).toNat := rfl
      rw [hT] at h1
      exact cnt_pos (N := N) (by rw [h1] at h; exact h)
/-- one word alone leads on only if it is an object's -/
theorem root_obj {S T : Nat → Bool} {M : Nat → Nat} {r : Nat} (h : Stay S M [r] T) (hT : ∃ a, T a = true) : ∃ a, r = a * 2 ∧ T a = true := by
  by_cases hr : ∃ a, S a = true ∧ r = a * 2
  · obtain ⟨a, hS, rfl⟩ := hr
    exact ⟨a, rfl, (h.iff a).2 ⟨Wd.root (List.mem_cons_self), hS⟩⟩
  · exfalso
    obtain ⟨d, hd⟩ := hT
    have hw : ∀ x, Wd S M [r] x → x = r := fun x hx => by
      induction hx with
      | root hx => simpa using hx
      | @step a y _ hs _ ih => exact absurd ⟨a, hs, ih.symm⟩ hr
    exact hr ⟨d, ((h.iff d).1 hd).2, (hw _ ((h.iff d).1 hd).1).symm⟩
theorem words_one' (w : World) (x : Nat) (t : TypeId) : WordsAt (w.alloc (.cells #[.int .u64 (x : Int)] t)) (.slice (some ⟨w.heap.size, 0, none⟩) 1 1) [x] :=
  ⟨_, 1, rfl, Nat.le_refl _, by unfold maxLen; omega, Or.inr ⟨w.heap.size, 0, rfl, fun j hj => by
    match j, hj with
    | 0, _ => exact (cellO (heap_alloc_new w _) 0).trans rfl⟩, fun h => by cases h⟩
end Go.Proofs.YtobajnodckiohaaDoor
