/- Memory behind a collection is as sound as it was. Memory behind a collection is as sound as it was: the count of the symbols, and all nine rules. Memory that was collected, or laid object by object, can be collected. FoundlingStays: the walk, behind the law's own memory (Lay, Turn and Own are taken by their contracts). FoundlingStays: the image of sound memory is read back as it was. FoundlingStays: the law's walk; Lay, Turn and Own by their contracts. -/
import Derived.Test.YtibopjjicfiimaaGreatDoorSoR
import Derived.Test.YtibopjjicfiimaaGreatDoorCollH
namespace Go.Proofs.YtibopjjicfiimaaGreatDoor
open Go.RowKit Go.Maps
set_option linter.unusedVariables false
/-- a word that stays good: nought, a number, an object that stays -/
def Gd (T : Nat → Bool) (x : Nat) : Prop := x = 0 ∨ x % 2 = 1 ∨ ∃ a, x = a * 2 ∧ T a = true
section
variable {N : Nat} {S T : Nat → Bool} {M : Nat → Nat} {R : List Nat}
theorem gd_turn (c : CollOK N S M) (h : Stay S M R T) {x : Nat} (hx : Gd T x) : (x = 0 ∧ turnM M T x = 0) ∨ (x % 2 = 1 ∧ turnM M T x = x) ∨ ∃ a, x = a * 2 ∧ T a = true ∧ turnM M T x = npl M T a * 2 := by
  rcases hx with rfl | hx | ⟨a, rfl, ha⟩
  · exact Or.inl ⟨rfl, turn_zero M T⟩
  · exact Or.inr (Or.inl ⟨hx, turn_odd M T hx⟩)
  · have := c.lt (h.sub ha)
    exact Or.inr (Or.inr ⟨a, rfl, ha, turn_obj (by omega) this.2.1 ha⟩)
theorem wd_gd (c : CollOK N S M) (h : Stay S M R T) {x : Nat} (hx : Wd S M R x) : Gd T x := by
  rcases turn_in c h hx with ⟨h1, -⟩ | ⟨h1, -⟩ | ⟨a, h1, h2, -⟩
  · exact Or.inl h1
  · exact Or.inr (Or.inl h1)
  · exact Or.inr (Or.inr ⟨a, h1, h2⟩)
theorem ksum_up {n m : Nat} (hnm : n ≤ m) : ksum M T n ≤ ksum M T m := by
  induction m with
  | zero =>
    have : n = 0 := by omega
    rw [this]; exact Nat.le_refl _
  | succ m ih =>
    by_cases e : n = m + 1
    · rw [e]; exact Nat.le_refl _
    · have := ih (by omega)
      show _ ≤ ksum M T m + _
      omega
theorem npl_lt {a b : Nat} (hab : a < b) (ha : T a = true) : npl M T a + 2 + cz M a ≤ npl M T b := by
  have h1 : ksum M T (a + 1) = ksum M T a + (2 + cz M a) := by show ksum M T a + (if T a = true then _ else _) = _; rw [if_pos ha]
  have h2 := ksum_up (M := M) (T := T) (show a + 1 ≤ b by omega)
  unfold npl; omega
theorem npl_inj {a b : Nat} (ha : T a = true) (hb : T b = true) (e : npl M T a = npl M T b) : a = b := by
  by_cases h1 : a < b
  · have := npl_lt (M := M) h1 ha; omega
  · by_cases h2 : b < a
    · have := npl_lt (M := M) h2 hb; omega
    · omega
theorem obj_ptr (c : CollOK N S M) {a : Nat} (ha : S a = true) : PtrIn S (a * 2) = true := by
  have := c.lt ha
  exact ptrIn_iff.2 ⟨a, rfl, by omega, this.2.1, ha⟩
theorem new_ptr (c : CollOK N S M) (h : Stay S M R T) {a : Nat} (ha : T a = true) : PtrIn (newS N M T) (npl M T a * 2) = true := by
  obtain ⟨-, -, h2, h3⟩ := npl_fit c h ha
  exact ptrIn_iff.2 ⟨_, rfl, by omega, h3, (newS_iff c h).2 ⟨a, ha, rfl⟩⟩
theorem no_ptr {S : Nat → Bool} {x : Nat} (hx : x = 0 ∨ x % 2 = 1) : PtrIn S x = false := by
  cases hp : PtrIn S x with
  | false => rfl
  | true => obtain ⟨a, rfl, h1, -⟩ := ptrIn_iff.1 hp; omega
theorem coll_iso (c : CollOK N S M) (h : Stay S M R T) : Iso S M (newS N M T) (newM N M T) (turnM M T) (Gd T) := by
  have half : ∀ a : Nat, a * 2 / 2 = a := fun a => by omega
  have infO : ∀ {a : Nat}, S a = true → infX S M (a * 2) = M (a + 1) := fun {a} ha => by unfold infX; rw [if_pos (obj_ptr c ha), half]
  have infN : ∀ {a : Nat}, T a = true → infX (newS N M T) (newM N M T) (npl M T a * 2) = M (a + 1) := fun {a} ha => by unfold infX; rw [if_pos (new_ptr c h ha), half]; exact new_head c h ha
  have inf0 : ∀ {S : Nat → Bool} {M : Nat → Nat} {x : Nat}, x = 0 ∨ x % 2 = 1 → infX S M x = 0 := fun hx => by unfold infX; rw [if_neg (by rw [no_ptr hx]; simp)]
  have mem : ∀ {a y : Nat}, T a = true → y ∈ wordsA M a → Gd T y := fun {a y} ha hy => wd_gd c h (Wd.step ((h.iff a).1 ha).1 (h.sub ha) hy)
  refine ⟨⟨Or.inl rfl, turn_zero M T⟩, fun x y hx hy e => ?_, fun x hx => ?_, fun x hx => ?_, fun x hx => ?_, fun x hx => ?_, fun x hx => ?_, fun x hx => ?_⟩
  · rcases gd_turn c h hx with ⟨h1, h2⟩ | ⟨h1, h2⟩ | ⟨a, h1, ha, h2⟩ <;> rcases gd_turn c h hy with ⟨k1, k2⟩ | ⟨k1, k2⟩ | ⟨b, k1, hb, k2⟩
    · omega
    · omega
    · have := (npl_fit c h hb).2.2.1; omega
    · omega
    · omega
    · omega
    · have := (npl_fit c h ha).2.2.1; omega
    · omega
    · have := npl_inj (M := M) ha hb (by omega)
      omega
  · rcases gd_turn c h hx with ⟨h1, h2⟩ | ⟨h1, h2⟩ | ⟨a, rfl, ha, h2⟩
    · rw [h2, no_ptr (Or.inl rfl), no_ptr (Or.inl h1)]
    · rw [h2, no_ptr (Or.inr h1), no_ptr (Or.inr h1)]
    · rw [h2, new_ptr c h ha, obj_ptr c (h.sub ha)]
  · rcases gd_turn c h hx with ⟨h1, h2⟩ | ⟨h1, h2⟩ | ⟨a, rfl, ha, h2⟩
    · rw [h2, inf0 (Or.inl rfl), inf0 (Or.inl h1)]
    · rw [h2, inf0 (Or.inr h1), inf0 (Or.inr h1)]
    · rw [h2, infN ha, infO (h.sub ha)]
  · have cls0 : ∀ {S : Nat → Bool} {M : Nat → Nat} {x : Nat}, x = 0 ∨ x % 2 = 1 → clsX S M x = 0 := fun hx => by unfold clsX; rw [if_neg (by rw [no_ptr hx]; simp)]
    rcases gd_turn c h hx with ⟨h1, h2⟩ | ⟨h1, h2⟩ | ⟨a, rfl, ha, h2⟩
    · rw [h2, cls0 (Or.inl rfl), cls0 (Or.inl h1)]; exact ⟨(turn_zero M T).symm, Or.inl rfl⟩
    · rw [h2, cls0 (Or.inr h1), cls0 (Or.inr h1)]; exact ⟨(turn_zero M T).symm, Or.inl rfl⟩
    · have e1 : clsX (newS N M T) (newM N M T) (npl M T a * 2) = turnM M T (M a) := by unfold clsX; rw [if_pos (new_ptr c h ha), half]; exact new_cls c h ha
      have e2 : clsX S M (a * 2) = M a := by unfold clsX; rw [if_pos (obj_ptr c (h.sub ha)), half]
      rw [h2, e1, e2]
      exact ⟨rfl, mem ha (by unfold wordsA; exact List.mem_cons_self)⟩
  · have wrd0 : ∀ {S : Nat → Bool} {M : Nat → Nat} {x : Nat}, x = 0 ∨ x % 2 = 1 → wrdX S M x = [] := fun hx => by unfold wrdX; rw [if_neg (fun hh => by rw [no_ptr hx] at hh; cases hh.1)]
    rcases gd_turn c h hx with ⟨h1, h2⟩ | ⟨h1, h2⟩ | ⟨a, rfl, ha, h2⟩
    · rw [h2, wrd0 (Or.inl rfl), wrd0 (Or.inl h1)]; exact ⟨rfl, fun y hy => by cases hy⟩
    · rw [h2, wrd0 (Or.inr h1), wrd0 (Or.inr h1)]; exact ⟨rfl, fun y hy => by cases hy⟩
    · have hz := cz4 (c.obj a (h.sub ha)).2.2.1 (c.small _)
      have k2 : kndX (newS N M T) (newM N M T) (npl M T a * 2) = hK (M (a + 1)) := by unfold kndX; rw [infN ha]
      have s2 : sizX (newS N M T) (newM N M T) (npl M T a * 2) = hS (M (a + 1)) := by unfold sizX; rw [infN ha]
      have k1 : kndX S M (a * 2) = hK (M (a + 1)) := by unfold kndX; rw [infO (h.sub ha)]
      have s1 : sizX S M (a * 2) = hS (M (a + 1)) := by unfold sizX; rw [infO (h.sub ha)]
      rw [h2]
      unfold wrdX
      rw [k2, s2, k1, s1, new_ptr c h ha, obj_ptr c (h.sub ha), half, half]
      by_cases hk : hK (M (a + 1)) = 2
      · rw [if_neg (fun hh => hh.2 hk), if_neg (fun hh => hh.2 hk)]; exact ⟨rfl, fun y hy => by cases hy⟩
      · rw [if_pos ⟨rfl, hk⟩, if_pos ⟨rfl, hk⟩, List.map_map]
        rw [if_neg hk] at hz
        refine ⟨List.map_congr_left fun i hi => ?_, fun y hy => ?_⟩
        · have := new_word c h ha (i := i) (by have := List.mem_range.1 hi; omega)
          rw [if_neg hk] at this
          exact this
        · exact mem ha (by unfold wordsA; rw [if_neg hk]; exact List.mem_cons_of_mem _ hy)
  · have byt0 : ∀ {S : Nat → Bool} {M : Nat → Nat} {x : Nat}, x = 0 ∨ x % 2 = 1 → bytX S M x = [] := fun hx => by unfold bytX; rw [if_neg (fun hh => by rw [no_ptr hx] at hh; cases hh.1)]
    rcases gd_turn c h hx with ⟨h1, h2⟩ | ⟨h1, h2⟩ | ⟨a, rfl, ha, h2⟩
    · rw [h2, byt0 (Or.inl rfl), byt0 (Or.inl h1)]
    · rw [h2, byt0 (Or.inr h1), byt0 (Or.inr h1)]
    · have hz := cz4 (c.obj a (h.sub ha)).2.2.1 (c.small _)
      have k2 : kndX (newS N M T) (newM N M T) (npl M T a * 2) = hK (M (a + 1)) := by unfold kndX; rw [infN ha]
      have s2 : sizX (newS N M T) (newM N M T) (npl M T a * 2) = hS (M (a + 1)) := by unfold sizX; rw [infN ha]
      have k1 : kndX S M (a * 2) = hK (M (a + 1)) := by unfold kndX; rw [infO (h.sub ha)]
      have s1 : sizX S M (a * 2) = hS (M (a + 1)) := by unfold sizX; rw [infO (h.sub ha)]
      rw [h2]
      unfold bytX
      rw [k2, s2, k1, s1, new_ptr c h ha, obj_ptr c (h.sub ha), half, half]
      by_cases hk : hK (M (a + 1)) = 2
      · rw [if_pos ⟨rfl, hk⟩, if_pos ⟨rfl, hk⟩]
        rw [if_pos hk] at hz
        unfold rawL
        refine List.map_congr_left fun i hi => ?_
        have hi := List.mem_range.1 hi
        have := new_word c h ha (i := i / 8) (by omega)
        rw [if_pos hk] at this
        rw [this]
      · rw [if_neg (fun hh => hk hh.2), if_neg (fun hh => hk hh.2)]
  · rcases gd_turn c h hx with ⟨h1, h2⟩ | ⟨h1, h2⟩ | ⟨a, rfl, ha, h2⟩
    · rw [h2, h1]; exact ⟨Iff.rfl, fun e => rfl⟩
    · rw [h2]; exact ⟨Iff.rfl, fun e => rfl⟩
    · rw [h2]; exact ⟨by omega, fun e => by omega⟩
end
end Go.Proofs.YtibopjjicfiimaaGreatDoor
namespace Go.Proofs.YtibopjjicfiimaaGreatDoor
open Go.RowKit Go.Maps
set_option linter.unusedVariables false
theorem cmp_self : ∀ a : List UInt8, Lib.compareBytes a a = 0
  | [] => rfl
  | x :: a => by
    unfold Lib.compareBytes
    have : ¬ x < x := UInt8.lt_irrefl x
    rw [if_neg this, if_neg this]; exact cmp_self a
theorem cmp_trans : ∀ a b c : List UInt8, Lib.compareBytes a b < 0 → Lib.compareBytes b c < 0 → Lib.compareBytes a c < 0
  | [], [], _, h, _ => by simp [Lib.compareBytes] at h
  | [], _ :: _, [], _, h => by simp [Lib.compareBytes] at h
  | [], _ :: _, _ :: _, _, _ => by simp [Lib.compareBytes]
  | _ :: _, [], _, h, _ => by simp [Lib.compareBytes] at h
  | _ :: _, _ :: _, [], _, h => by simp [Lib.compareBytes] at h
  | x :: a, y :: b, z :: c, h, k => by
    unfold Lib.compareBytes at h k ⊢
    simp only [UInt8.lt_iff_toNat_lt] at h k ⊢
    by_cases h1 : x.toNat < y.toNat
    · by_cases k1 : y.toNat < z.toNat
      · rw [if_pos (by omega)]; omega
      · rw [if_neg k1] at k
        by_cases k2 : z.toNat < y.toNat
        · rw [if_pos k2] at k; omega
        · rw [if_pos (by omega)]; omega
    · rw [if_neg h1] at h
      by_cases h2 : y.toNat < x.toNat
      · rw [if_pos h2] at h; omega
      · rw [if_neg h2] at h
        by_cases k1 : y.toNat < z.toNat
        · rw [if_pos (by omega)]; omega
        · rw [if_neg k1] at k
          by_cases k2 : z.toNat < y.toNat
          · rw [if_pos k2] at k; omega
          · rw [if_neg k2] at k
            rw [if_neg (by omega), if_neg (by omega)]
            exact cmp_trans a b c h k
theorem ris_gt {S : Nat → Bool} {M : Nat → Nat} {sp : Nat → Nat} : ∀ (l : List Nat) (b : List UInt8), risF S M sp (some b) l = true → ∀ y ∈ l, Lib.compareBytes b (bytX S M y) < 0
  | x :: l, b, h, y, hy => by
    rw [risF_cons, Bool.and_eq_true, Bool.and_eq_true] at h
    have hx : Lib.compareBytes b (bytX S M x) < 0 := by simpa using h.1.2
    rcases List.mem_cons.1 hy with rfl | hy
    · exact hx
    · exact cmp_trans _ _ _ hx (ris_gt l _ h.2 y hy)
  | [], _, _, y, hy => by cases hy
theorem ris_tx {S : Nat → Bool} {M : Nat → Nat} {sp : Nat → Nat} : ∀ (l : List Nat) (o : Option (List UInt8)), risF S M sp o l = true → (∀ y ∈ l, txB S M sp y = true) ∧ l.Nodup
  | x :: l, o, h => by
    rw [risF_cons, Bool.and_eq_true, Bool.and_eq_true] at h
    obtain ⟨i1, i2⟩ := ris_tx l _ h.2
    refine ⟨fun y hy => ?_, List.nodup_cons.2 ⟨fun hx => ?_, i2⟩⟩
    · rcases List.mem_cons.1 hy with rfl | hy
      · exact h.1.1
      · exact i1 y hy
    · have := ris_gt l _ h.2 x hx
      rw [cmp_self] at this; omega
  | [], _, _ => ⟨(fun y hy => (by cases hy)), List.nodup_nil⟩
theorem nth_one (l : List Nat) : nthL 1 l = l := by
  unfold nthL
  apply List.ext_getElem
  · simp
  · intro i h1 h2
    simp [List.getD_eq_getElem?_getD, List.getElem?_eq_getElem h2]
/-- so many that differ are counted -/
theorem cnt_ge {T : Nat → Bool} {p : Nat → Bool} : ∀ (k : Nat) (l : List Nat), l.Nodup → (∀ a ∈ l, a < k ∧ T a = true ∧ p (a * 2) = true) → l.length ≤ cntO T p k
  | 0, l, _, h => by
    cases l with
    | nil => exact Nat.le_refl _
    | cons a l => have := (h a List.mem_cons_self).1; omega
  | k + 1, l, hn, h => by
    show l.length ≤ cntO T p k + (if T k = true ∧ p (k * 2) = true then 1 else 0)
    by_cases hk : k ∈ l
    · have h1 := cnt_ge k (l.erase k) (hn.erase k) (fun a ha => by
        rw [hn.mem_erase_iff] at ha
        obtain ⟨b1, b2⟩ := h a ha.2
        exact ⟨by omega, b2⟩)
      rw [List.length_erase_of_mem hk] at h1
      rw [if_pos (h k hk).2]; omega
    · have h1 := cnt_ge k l hn (fun a ha => by
        obtain ⟨b1, b2⟩ := h a ha
        have : a ≠ k := fun e => hk (by rw [← e]; exact ha)
        exact ⟨by omega, b2⟩)
      omega
theorem cnt_mono {T S : Nat → Bool} {p : Nat → Bool} (h : ∀ a, T a = true → S a = true) : ∀ k, cntO T p k ≤ cntO S p k
  | 0 => Nat.le_refl _
  | k + 1 => by
    have := cnt_mono (p := p) h k
    show cntO T p k + (if T k = true ∧ p (k * 2) = true then 1 else 0) ≤ cntO S p k + (if S k = true ∧ p (k * 2) = true then 1 else 0)
    by_cases h1 : T k = true ∧ p (k * 2) = true
    · rw [if_pos h1, if_pos ⟨h k h1.1, h1.2⟩]; omega
    · rw [if_neg h1]; omega
section
variable {N : Nat} {S T : Nat → Bool} {M : Nat → Nat} {R : List Nat}
theorem cnt_new (c : CollOK N S M) (h : Stay S M R T) {p p2 : Nat → Bool} (hp : ∀ a, T a = true → p2 (npl M T a * 2) = p (a * 2)) : ∀ n, n ≤ N → cntO (newS N M T) p2 (2 + ksum M T n) = cntO T p n
  | 0, _ => by
    have e : ∀ j, newS N M T j = true → 2 ≤ j := fun j hj => (newS_low c h hj).1
    show cntO (newS N M T) p2 (0 + 2) = 0
    rw [cntO_gap 2 (fun j _ hj => by
      cases hj2 : newS N M T j with
      | false => rfl
      | true => have := e j hj2; omega)]
    rfl
  | n + 1, hn => by
    have ih := cnt_new c h hp n (by omega)
    by_cases hT : T n = true
    · have hk : ksum M T (n + 1) = ksum M T n + (2 + cz M n) := by show ksum M T n + (if T n = true then _ else _) = _; rw [if_pos hT]
      rw [hk, show 2 + (ksum M T n + (2 + cz M n)) = (npl M T n + 1) + (1 + cz M n) by unfold npl; omega, cntO_gap (1 + cz M n) (fun j h1 h2 => by
        cases hj : newS N M T j with
        | false => rfl
        | true =>
          obtain ⟨a, ha, rfl⟩ := (newS_iff c h).1 hj
          by_cases e : a < n
          · have := npl_lt (M := M) e ha; omega
          · by_cases e2 : n < a
            · have := npl_lt (M := M) e2 hT; omega
            · obtain rfl : a = n := by omega
              omega)]
      show cntO (newS N M T) p2 (npl M T n) + (if newS N M T (npl M T n) = true ∧ p2 (npl M T n * 2) = true then 1 else 0) = cntO T p n + (if T n = true ∧ p (n * 2) = true then 1 else 0)
      rw [show npl M T n = 2 + ksum M T n from rfl, ih, ← show npl M T n = 2 + ksum M T n from rfl, hp n hT]
      congr 1
      by_cases hpn : p (n * 2) = true
      · rw [if_pos ⟨(newS_iff c h).2 ⟨n, hT, rfl⟩, hpn⟩, if_pos ⟨hT, hpn⟩]
      · rw [if_neg (fun hh => hpn hh.2), if_neg (fun hh => hpn hh.2)]
    · have hk : ksum M T (n + 1) = ksum M T n := by show ksum M T n + (if T n = true then _ else _) = _; rw [if_neg hT]; rfl
      rw [hk, ih]
      show _ = cntO T p n + (if T n = true ∧ p (n * 2) = true then 1 else 0)
      rw [if_neg (fun hh => hT hh.1)]; rfl
/-- what is sound is sound behind a collection, in as many cells as one likes -/
theorem sound_coll {root N2 : Nat} (c : CollOK N S M) (h : Stay S M [root] T) (h0 : soundN S M N root = 0) (hN2 : 2 + ksum M T N ≤ N2) : soundN (newS N M T) (newM N M T) N2 (turnM M T root) = 0 := by
  have I := coll_iso c h
  have r := soundN_zero.1 h0
  have hroot := r 2 (by omega)
  have hptr : PtrIn S root = true := by
    have : rootB S M root = true := hroot
    rw [rootB_def] at this
    simp only [Bool.and_eq_true] at this
    exact (isB_true this.1.1.1.2).1
  obtain ⟨a0, ha0, hz0, hb0, hS0⟩ := ptrIn_iff.1 hptr
  have hT0 : T a0 = true := (h.iff a0).2 ⟨Wd.root (by rw [← ha0]; exact List.mem_cons_self), hS0⟩
  have hr : Gd T root := Or.inr (Or.inr ⟨a0, ha0, hT0⟩)
  obtain ⟨hs, hrb⟩ := I.rootB hr
  obtain ⟨cl1, cl2⟩ := I.clsL hs
  have objs : ∀ {p p2 : Nat → Bool}, (∀ a, T a = true → p2 (turnM M T (a * 2)) = p (a * 2)) → allO N S p = true → allO N2 (newS N M T) p2 = true := fun {p p2} hp ha => by
    refine allO_iff.2 fun b _ hb => ?_
    obtain ⟨a, hTa, rfl⟩ := (newS_iff c h).1 hb
    have hl := c.lt (h.sub hTa)
    have := hp a hTa
    rw [turn_obj (by omega) hl.2.1 hTa] at this
    rw [this]
    exact allO_iff.1 ha a hl.1 (h.sub hTa)
  have gd : ∀ {a}, T a = true → Gd T (a * 2) := fun {a} ha => Or.inr (Or.inr ⟨a, rfl, ha⟩)
  refine soundN_zero.2 fun j hj => ?_
  match j, hj with
  | 0, _ =>
    have h1 : (closedB S M && allO N S (nzB S M)) = true := r 0 (by omega)
    rw [Bool.and_eq_true] at h1
    show (closedB _ _ && allO _ _ _) = true
    rw [Bool.and_eq_true]
    refine ⟨closedB_iff.2 (new_closed c h), objs (p := nzB S M) (fun a ha => ?_) h1.2⟩
    obtain ⟨w1, w2⟩ := I.wrd _ (gd ha)
    unfold nzB
    rw [w1]
    exact all_map_congr fun y hy => by
      have := I.eq (w2 y hy) I.zero.1
      rw [I.zero.2] at this
      rw [Bool.eq_iff_iff, decide_eq_true_eq, decide_eq_true_eq] at this ⊢
      exact not_congr this
  | 1, _ => exact objs (p := fun x => !mrkX S M x) (p2 := fun x => !mrkX (newS N M T) (newM N M T) x) (fun a ha => by simp only [I.mrk (gd ha)]) (r 1 (by omega))
  | 2, _ => exact hrb.trans hroot
  | 3, _ => exact (I.namB hs).trans (r 3 (by omega))
  | 4, _ =>
    show pairF _ _ _ [] (clsL _ _ _) = true
    rw [cl1]
    exact (I.pair hs _ [] cl2 (fun y hy => by cases hy)).trans (r 4 (by omega))
  | 5, _ =>
    show (clsL _ _ _).all (towX _ _ _ (clsL _ _ _)) = true
    rw [cl1]
    exact (all_map_congr fun y hy => I.tow hs cl2 (cl2 y hy)).trans (r 5 (by omega))
  | 6, _ =>
    have h6 : intB S M (spX S M root) N = true := r 6 (by omega)
    rw [intB_def, Bool.and_eq_true, decide_eq_true_eq, nth_one] at h6
    have hw := I.wrd _ (hs 4).2
    show intB _ _ _ _ = true
    rw [intB_def, nth_one, (hs 4).1, hw.1, I.ris hs _ _ hw.2, h6.1, Bool.true_and, decide_eq_true_eq, List.length_map]
    have e1 : cntO (newS N M T) (fun x => ofB (newS N M T) (newM N M T) (spX (newS N M T) (newM N M T) (turnM M T root)) x 13) N2 = cntO T (fun x => ofB S M (spX S M root) x 13) N := by
      have hg := cntO_gap (S := newS N M T) (p := fun x => ofB (newS N M T) (newM N M T) (spX (newS N M T) (newM N M T) (turnM M T root)) x 13) (i := 2 + ksum M T N) (N2 - (2 + ksum M T N)) (fun j h1 _ => by
        cases hj : newS N M T j with
        | false => rfl
        | true => have := (newS_low c h hj).2; omega)
      rw [show 2 + ksum M T N + (N2 - (2 + ksum M T N)) = N2 by omega] at hg
      rw [hg]
      refine cnt_new c h (fun a ha => ?_) N (Nat.le_refl _)
      have hl := c.lt (h.sub ha)
      have := I.of hs (gd ha) 13
      rw [turn_obj (by omega) hl.2.1 ha] at this
      exact this
    rw [e1]
    refine Nat.le_antisymm (Nat.le_trans (cnt_mono (T := T) (S := S) (p := fun x => ofB S M (spX S M root) x 13) (fun a ha => h.sub ha) N) (Nat.le_of_eq h6.2)) ?_
    obtain ⟨t1, t2⟩ := ris_tx _ _ h6.1
    have key : ∀ y ∈ wrdX S M (spX S M root 4), ∃ a, y = a * 2 ∧ T a = true ∧ ofB S M (spX S M root) (a * 2) 13 = true := fun y hy => by
      have ht := t1 y hy
      unfold txB at ht
      simp only [Bool.and_eq_true, decide_eq_true_eq] at ht
      obtain ⟨a, rfl, hz, -, -⟩ := ptrIn_iff.1 ht.1.1
      rcases hw.2 _ hy with e | e | ⟨b, e, hb⟩
      · omega
      · omega
      · obtain rfl : a = b := by omega
        refine ⟨a, rfl, hb, ?_⟩
        unfold ofB
        rw [ht.1.1, decide_eq_true ht.2]; rfl
    have hnd : ((wrdX S M (spX S M root 4)).map (· / 2)).Nodup := by
      rw [List.nodup_iff_pairwise_ne] at t2 ⊢
      rw [List.pairwise_map]
      refine t2.imp_of_mem fun {x y} hx hy hne e => hne ?_
      obtain ⟨a, rfl, -⟩ := key x hx
      obtain ⟨b, rfl, -⟩ := key y hy
      omega
    have := cnt_ge (T := T) (p := fun x => ofB S M (spX S M root) x 13) N _ hnd (fun a ha => by
      obtain ⟨y, hy, rfl⟩ := List.mem_map.1 ha
      obtain ⟨a, rfl, h1, h2⟩ := key y hy
      rw [show a * 2 / 2 = a by omega]
      exact ⟨(c.lt (h.sub h1)).1, h1, h2⟩)
    rwa [List.length_map] at this
  | 7, _ =>
    have h7 : fitB S M N (clsL S M (spX S M root)) = true := r 7 (by omega)
    rw [fitB_def, Bool.and_eq_true] at h7
    show fitB _ _ _ (clsL _ _ _) = true
    rw [fitB_def, cl1, Bool.and_eq_true]
    exact ⟨(all_map_congr fun y hy => I.fit5 (cl2 y hy)).trans h7.1, objs (p := fitX S M (clsL S M (spX S M root))) (fun a ha => I.fitX cl2 (gd ha)) h7.2⟩
  | 8, _ =>
    show ansB _ _ _ (clsL _ _ _) = true
    rw [cl1]
    exact (I.ansB hs cl2).trans (r 8 (by omega))
end
end Go.Proofs.YtibopjjicfiimaaGreatDoor
namespace Go.Proofs.YtibopjjicfiimaaGreatDoor
open Go.RowKit
set_option linter.unusedVariables false
section
variable {N : Nat} {S T : Nat → Bool} {M : Nat → Nat} {R : List Nat}
theorem loadM_small {ws : List Nat} (h : SmallW ws) (i : Nat) : loadM ws i < 18446744073709551616 := by
  unfold loadM
  split
  · rw [List.getD_eq_getElem?_getD]
    cases hg : ws[i - 2]? with
    | none => show (0 : Nat) < _; omega
    | some y => exact h y (List.mem_of_getElem? hg)
  · omega
theorem new_coll {N2 : Nat} (c : CollOK N S M) (h : Stay S M R T) (hN : 2 + ksum M T N ≤ N2) (hN2 : N2 ≤ 16777216) : CollOK N2 (newS N M T) (newM N M T) := by
  refine ⟨fun x hx => ?_, loadM_small (new_small c h), hN2, by rw [ksum_any c h hN]; exact hN⟩
  obtain ⟨a, ha, rfl⟩ := (newS_iff c h).1 hx
  obtain ⟨h1, h2, h3, h4⟩ := npl_fit c h ha
  obtain ⟨-, -, -, hh, -⟩ := c.obj a (h.sub ha)
  exact ⟨h3, by rw [new_cz c h ha]; omega, new_un c h ha, by rw [new_head c h ha]; exact hh, new_tail c h ha⟩
theorem chain_all {free : Nat} : ∀ (l : List Nat) (a : Nat), Chain4 M free a l → ∀ x ∈ l, a ≤ x ∧ StandsAt M x ∧ x + 2 + cellsM M x ≤ free
  | [], a, _, x, hx => by cases hx
  | y :: l, a, ⟨h1, h2, h3⟩, x, hx => by
    rcases List.mem_cons.1 hx with rfl | hx
    · have := Chain4.le h3
      exact ⟨by omega, by rw [h1]; exact h2, by rw [h1]; exact this⟩
    · obtain ⟨b1, b2, b3⟩ := chain_all l _ h3 x hx
      exact ⟨by omega, b2, b3⟩
theorem chain_sum {free : Nat} {S : Nat → Bool} : ∀ (l : List Nat) (a : Nat), Chain4 M free a l → (∀ j, a ≤ j → (S j = true ↔ j ∈ l)) → ksum M S free = ksum M S a + (free - a)
  | [], a, h, _ => by
    obtain rfl : a = free := h
    omega
  | y :: l, a, ⟨h1, h2, h3⟩, hS => by
    subst h1
    have hle := Chain4.le h3
    have hSy : S y = true := (hS y (Nat.le_refl _)).2 List.mem_cons_self
    have hch := chain_all l _ h3
    have hz := cells_cz h2.2.1
    have h4 := chain_sum l _ h3 (fun j hj => by
      rw [hS j (by omega), List.mem_cons]
      exact ⟨fun hh => hh.elim (fun e => by omega) id, Or.inr⟩)
    have h5 : ksum M S (y + 1) = ksum M S y + (2 + cz M y) := by show ksum M S y + (if S y = true then _ else _) = _; rw [if_pos hSy]
    have h6 := (skip_all (M := M) (T := S) (n := y + 1) (d := 1 + cz M y) (fun j a b => by
      cases hj : S j with
      | false => rfl
      | true =>
        have := (hS j (by omega)).1 hj
        rcases List.mem_cons.1 this with e | e
        · omega
        · have := (hch j e).1; omega)).2.2.1
    rw [hz] at h4 hle
    rw [show y + 1 + (1 + cz M y) = y + 2 + cz M y by omega] at h6
    rw [h4, h6, h5]; omega
/-- memory that is laid object by object -/
theorem chain_coll {free : Nat} {l : List Nat} (hc : Chain4 M free 2 l) (hf : free ≤ N) (hN : N ≤ 16777216) (hsm : ∀ i, M i < 18446744073709551616) (h8 : ∀ x ∈ l, hK (M (x + 1)) = 2 → 0 < hS (M (x + 1)) % 8) : CollOK N (setAll N (fun _ => false) l) M := by
  have hch := chain_all l 2 hc
  have hlt : ∀ x ∈ l, x < N := fun x hx => by have := (hch x hx).2.2; omega
  have hS : ∀ j, setAll N (fun _ => false) l j = true ↔ j ∈ l := fun j => by rw [setAll_iff N l _ j hlt]; simp
  refine ⟨fun a ha => ?_, hsm, hN, ?_⟩
  · have hx := (hS a).1 ha
    obtain ⟨b1, ⟨u, hh, ht⟩, b3⟩ := hch a hx
    have hz := cells_cz hh
    refine ⟨b1, by rw [← hz]; omega, u, hh, fun hk => ⟨h8 a hx hk, ?_⟩⟩
    rw [← hz]
    exact ht hk (h8 a hx hk)
  · have hs := chain_sum (S := setAll N (fun _ => false) l) l 2 hc (fun j _ => hS j)
    have h2 : ksum M (setAll N (fun _ => false) l) 2 = 0 := by
      have := (skip_all (M := M) (T := setAll N (fun _ => false) l) (n := 0) (d := 2) (fun j _ b => by
        cases hj : setAll N (fun _ => false) l j with
        | false => rfl
        | true => have := (hch j ((hS j).1 hj)).1; omega)).2.2.1
      rw [Nat.zero_add] at this
      rw [this]; rfl
    have h3 := (skip_all (M := M) (T := setAll N (fun _ => false) l) (n := free) (d := N - free) (fun j a b => by
      cases hj : setAll N (fun _ => false) l j with
      | false => rfl
      | true => have := (hch j ((hS j).1 hj)).2.2; omega)).2.2.1
    rw [show free + (N - free) = N by omega] at h3
    have hle := Chain4.le hc
    rw [h3, hs, h2]; omega
end
end Go.Proofs.YtibopjjicfiimaaGreatDoor
namespace Go.Proofs.YtibopjjicfiimaaGreatDoor
open Go.RowKit
set_option linter.unusedVariables false
/-- what Collect does to sound memory -/
theorem stays_coll {B h free : Nat} {S : Nat → Bool} {M : Nat → Nat} (w w0 : World) (H0 : HeapAt w0 B h 3000 free S M) (c : CollOK 3000 S M) (hBs : B ≤ w0.heap.size) (hG : GoodH 3000 S M)
    (hT : TabAt 0 Lib.deBruijn64tab w0) (hs : soundN S M 3000 4 = 0) (xv : Value) (hx : WordsAt w0 xv [4]) :
    Calls Tryz.prog 8 #[.pointer (some ⟨h, 0, none⟩), xv] w0 fun e w' => ∃ (g P m : Nat) (cap : Nat) (S2 : Nat → Bool) (M2 : Nat → Nat) (ws pl : List Nat), e = .returned (.tuple #[.slice (some ⟨g, 0, none⟩) 1 cap, .int .i64 0]) ∧ Below B w0 w' ∧ w'.cell? ⟨g, 0, none⟩ = some (.int .u64 ((P * 2 : Nat) : Int)) ∧ g < w'.heap.size ∧
      HeapAt w' B h 3000 (2 + m) S2 M2 ∧ 2 + m ≤ 3000 ∧ 2 ≤ m ∧ 2 ≤ P ∧ P < 16777216 ∧ S2 P = true ∧ S2 0 = false ∧ ClosedP S2 M2 ∧ SmallW ws ∧ M2 = loadM ws ∧ usedL M2 (2 + m) = ws ∧ Chain4 (loadM ws) (2 + m) 2 pl ∧
      ∀ N2, 2 + m ≤ N2 → N2 ≤ 6000 → CollOK N2 S2 M2 ∧ GoodH N2 S2 M2 ∧ setAll N2 (fun _ => false) pl = S2 ∧ soundN S2 M2 N2 (P * 2) = 0 := by
  refine (collect_any B h 3000 free S M [4] xv w0 H0 hBs hG c hx (fun x hx => by simp at hx; omega) (by simp) hT (by omega) (by omega)).mono ?_
  rintro e w' ⟨v, r, rfl, hb, -, hcase⟩
  have r0 := soundN_zero.1 hs
  have hcl : (closedB S M && allO 3000 S (nzB S M)) = true := r0 0 (by omega)
  rw [Bool.and_eq_true, closedB_iff] at hcl
  have hrt : rootB S M 4 = true := r0 2 (by omega)
  have hp4 : PtrIn S 4 = true := by
    rw [rootB_def] at hrt
    simp only [Bool.and_eq_true] at hrt
    exact (isB_true hrt.1.1.1.2).1
  obtain ⟨a4, ha4, -, -, hS4⟩ := ptrIn_iff.1 hp4
  obtain rfl : a4 = 2 := by omega
  have hgood : ∀ y, Wd S M [4] y → y = 0 ∨ y % 2 = 1 ∨ PtrIn S y = true := by
    intro y hy
    cases hy with
    | root hr => simp at hr; subst hr; exact Or.inr (Or.inr hp4)
    | step h1 h2 h3 =>
      rename_i a
      obtain ⟨o1, o2⟩ := hcl.1 a h2
      unfold wordsA at h3
      rcases List.mem_cons.1 h3 with rfl | h3
      · exact Or.inr (Or.inr o1)
      · split at h3
        · cases h3
        · rename_i hk
          obtain ⟨i, hi, rfl⟩ := List.mem_map.1 h3
          have hi := List.mem_range.1 hi
          have := o2 hk i (by omega)
          unfold WordIn at this
          simp only [Bool.or_eq_true, decide_eq_true_eq] at this
          rcases this with (h | h) | h
          · exact Or.inl h
          · exact Or.inr (Or.inl h)
          · exact Or.inr (Or.inr h)
  rcases hcase with ⟨⟨y, hy, hy0, hy2, hyn⟩, -⟩ | ⟨rfl, T, hst, hout, hh⟩
  · exfalso
    rcases hgood y hy with h1 | h1 | h1
    · exact hy0 h1
    · omega
    · obtain ⟨a, rfl, k1, k2, k3⟩ := ptrIn_iff.1 h1
      exact hyn ⟨by omega, by rw [show a * 2 / 2 = a by omega]; exact k3⟩
  · have hT2 : T 2 = true := (hst.iff 2).2 ⟨Wd.root (by simp), hS4⟩
    have hcnt : 0 < cnt T 3000 := by
      have key : ∀ n, 3 ≤ n → 0 < cnt T n := by
        intro n hn
        obtain ⟨d, rfl⟩ : ∃ d, n = 3 + d := ⟨n - 3, by omega⟩
        induction d with
        | zero => show 0 < cnt T 2 + (T 2).toNat; rw [hT2]; show 0 < cnt T 2 + 1; omega
        | succ d ih => have := ih (by omega); show 0 < cnt T (3 + d) + _; omega
      exact key 3000 (by omega)
    obtain ⟨S2, M2, ws, pl, P, m, e1, e2, e3, e4, c1, c2, c3, c4, c5, c6, c7, c8, c9, c10, c11, c12, c13⟩ := collected c hst hcnt
    have hturn : turnM M T 4 = P * 2 := by simpa using e4
    rw [e4] at hout
    have h8 : HeapAt w' B h 3000 (2 + ksum M T 3000) (newS 3000 M T) (newM 3000 M T) := hh
    rw [e1, e2, e3] at h8
    obtain ⟨ba, bc, rfl, bl1, bl2, bl3⟩ := (words_of_owns hout).get
    obtain ⟨g, cap, hv, hgB, -⟩ := World.ownsRow.form hout (by simp)
    injection hv with hv1 hv2 hv3
    subst hv1
    obtain ⟨b', o', hg', hgl, hcell⟩ := bl3 0 (by simp)
    injection hg' with hg'
    injection hg' with hg1 hg2 _
    subst hg1; subst hg2
    refine ⟨g, P, m, bc, S2, M2, ws, pl, rfl, hb, by simpa using hcell, hgl, h8, c1, c2, c3, c4, c5, c6, c7, c8, c9, c10, c11, fun N2 h1 h2 => ?_⟩
    obtain ⟨d1, d2, -⟩ := c13 N2 h1
    have hnc := new_coll (N2 := N2) c hst (by rw [e3]; exact h1) (by omega)
    have hsc := sound_coll (N2 := N2) c hst hs (by rw [e3]; exact h1)
    rw [e1, e2] at hnc hsc
    rw [hturn] at hsc
    exact ⟨hnc, d1, d2, hsc⟩
end Go.Proofs.YtibopjjicfiimaaGreatDoor
namespace Go.Proofs.YtibopjjicfiimaaGreatDoor
open Go.RowKit
set_option linter.unusedVariables false
theorem stays_dec {P m : Nat} {S2 : Nat → Bool} {M2 : Nat → Nat} {ws pl : List Nat} (v : Value) (w : World) (hv : BytesAt w v (imgL M2 (2 + m) (P * 2))) (hT : TabAt 0 Lib.deBruijn64tab w)
    (hM : ∀ i, M2 i < 18446744073709551616) (c1 : 2 + m ≤ 3000) (c2 : 2 ≤ m) (c3 : 2 ≤ P) (c3' : P < 16777216) (c4 : S2 P = true) (c5 : S2 0 = false) (c6 : ClosedP S2 M2) (c7 : SmallW ws) (c8 : M2 = loadM ws) (c9 : usedL M2 (2 + m) = ws) (c10 : Chain4 (loadM ws) (2 + m) 2 pl)
    (hG : GoodH 5000 S2 M2) (hS : setAll 5000 (fun _ => false) pl = S2) :
    Calls Tryz.prog 10 #[v, .int .i64 5000] w fun e w' => ∃ h B, e = .returned (.tuple #[.pointer (some ⟨h, 0, none⟩), .int .u64 ((P * 2 : Nat) : Int), .int .i64 0]) ∧ w.heap.size ≤ B ∧ HeapAt w' B h 5000 (2 + m) S2 M2 ∧ Below w.heap.size w w' := by
  have hlen := imgL_len M2 (2 + m) (P * 2)
  rw [show 2 + m - 2 = m by omega] at hlen
  have hfit := imgL_fits M2 (2 + m) (P * 2)
  have hfront := imgL_front M2 (2 + m) (P * 2) (by omega) (by omega)
  have hused := imgL_used M2 (2 + m) (P * 2) hM
  rw [c9] at hused
  rw [show 2 + m - 2 = m by omega] at hused hfront
  refine (decode_img _ _ m (P * 2) 5000 P ws pl true w hv hlen (by omega) (by omega) hfit hfront hused c7 (by omega) (by omega) c10 rfl (by omega) c3' (fun _ => by rw [hS]; exact c4) (fun _ B' h' W hH hb => ?_)).mono ?_
  · rw [hS, ← c8] at hH
    refine (closed_any B' h' 5000 (2 + m) S2 M2 W hH hG c5 (tab_later hT hb)).mono ?_
    rintro e w' ⟨b, rfl, hb2, hg⟩
    rw [show b = true from hb2.2 c6]
    exact ⟨rfl, hg⟩
  · rintro e w' ⟨x, z, r, rfl, hg, hcase⟩
    rcases hcase with ⟨hh, -⟩ | ⟨-, -, rfl, rfl, B', h', hB, rfl, hH⟩ | ⟨-, hh, -⟩
    · omega
    · rw [hS, ← c8] at hH
      exact ⟨h', B', rfl, hB, hH, hg⟩
    · cases hh
end Go.Proofs.YtibopjjicfiimaaGreatDoor
namespace Go.Proofs.YtibopjjicfiimaaGreatDoor
open Go.RowKit
set_option linter.unusedVariables false
def hpV (lv : Value) : Value := .agg #[.int .i64 3000, lv, .int .u32 0]
set_option maxRecDepth 100000 in
set_option maxHeartbeats 6400000 in
theorem stays_walk (Q : World → Option Addr → Nat → Nat → Prop) (s1 s2 a3 : Option Addr) (n1 c1 n2 c2 n3 c3 : Nat) (w : World) (htab : 0 < w.heap.size)
    (hT : TabAt 0 Lib.deBruijn64tab w)
    (LAY : ∀ W, Below w.heap.size w W → Calls Tryz.prog 4 #[.agg #[.slice s1 n1 c1, .slice s2 n2 c2]] W fun e w' => ∃ la ln lc r, e = .returned (.tuple #[.agg #[.int .i64 3000, .slice la ln lc, .int .u32 0], .int .u64 r]) ∧ Q w' la ln lc ∧ Below W.heap.size W w')
    (QL : ∀ W W' la ln lc, Q W la ln lc → Below W.heap.size W W' → Q W' la ln lc)
    (TURN : ∀ W la ln lc, Below w.heap.size w W → Q W la ln lc → Calls Tryz.prog 5 #[.agg #[.int .i64 3000, .slice la ln lc, .int .u32 0], .slice a3 n3 c3] W fun e w' => ∃ la' ln' lc', e = .returned (.agg #[.int .i64 3000, .slice la' ln' lc', .int .u32 0]) ∧ Q w' la' ln' lc' ∧ Below w.heap.size w w' ∧ (∀ (q : Nat) (c : Array Value), W.heap[q]? = some (Obj.cells c 29 (0, 0)) → w'.heap[q]? = W.heap[q]?))
    (QS : ∀ (W : World) (la : Option Addr) (ln lc q : Nat) (c : Array Value) (v : Value), Q W la ln lc → W.heap[q]? = some (Obj.cells c 29 (0, 0)) → ∀ o, Q (W.setCell ⟨q, o, none⟩ v) la ln lc)
    (OWN : ∀ W la ln lc, Below w.heap.size w W → Q W la ln lc → Calls Tryz.prog 6 #[.agg #[.int .i64 3000, .slice la ln lc, .int .u32 0]] W fun e w' => ∃ h B free S M, e = .returned (.tuple #[.pointer (some ⟨h, 0, none⟩), .int .i64 0]) ∧ W.heap.size ≤ B ∧ B ≤ w'.heap.size ∧ HeapAt w' B h 3000 free S M ∧ CollOK 3000 S M ∧ GoodH 3000 S M ∧ Below W.heap.size W w') :
    Calls Tryz.prog 3 #[.agg #[.slice s1 n1 c1, .slice s2 n2 c2], .slice a3 n3 c3] w fun e w' => e = .returned (.bool true) ∧ Below w.heap.size w w' := by
  have HT := Lib.hid hT; have HL := Lib.hid LAY; have HQ := Lib.hid QL; have HTN := Lib.hid TURN; have HO := Lib.hid OWN; have HQS := Lib.hid QS
  clear hT LAY QL TURN OWN QS
  go_enter Tryz.func3, Tryz.ntmps3
  go_upto_region 1 with fail
  obtain ⟨w1, hw1⟩ : ∃ w1, w1 = w.alloc (.cells #[.slice s1 n1 c1, .slice s2 n2 c2] 24) := ⟨_, rfl⟩
  rw [← hw1]
  have hx1 : w1.heap[w.heap.size]? = some (.cells #[.slice s1 n1 c1, .slice s2 n2 c2] 24 (0, 0)) := by rw [hw1]; exact heap_alloc_new w _
  have hb1 : Below w.heap.size w w1 := by rw [hw1]; exact (Below.refl _ w).alloc (Nat.le_refl _) _
  have y0 := cellO hx1 0
  have y1 := cellO hx1 1
  simp at y0 y1
  have B1 := Lib.hid hb1
  clear hw1 hx1 hb1
  go_wp2_with fail
  refine (HL.out w1 B1.out).mono ?_
  rintro e w2 ⟨la, ln, lc, r, rfl, hq2, hg2⟩
  have B2 := Lib.hid (B1.out.trans (hg2.mono B1.out.size)); have HQ2 := Lib.hid hq2
  clear hg2 hq2 y0 y1
  obtain ⟨w3, hw3⟩ : ∃ w3, w3 = w2.alloc (.cells #[.int .i64 3000, .slice la ln lc, .int .u32 0] 29) := ⟨_, rfl⟩
  have hx3 : w3.heap[w2.heap.size]? = some (.cells #[.int .i64 3000, .slice la ln lc, .int .u32 0] 29 (0, 0)) := by rw [hw3]; exact heap_alloc_new w2 _
  have hb3 : Below w2.heap.size w2 w3 := by rw [hw3]; exact (Below.refl _ w2).alloc (Nat.le_refl _) _
  have B3 := Lib.hid (B2.out.trans (hb3.mono B2.out.size)); have HQ3 := Lib.hid (HQ.out _ _ _ _ _ HQ2.out hb3)
  have hs2 := B2.out.size
  have y0 := cellO hx3 0
  have y1 := cellO hx3 1
  have y2 := cellO hx3 2
  simp at y0 y1 y2
  have HX3 := Lib.hid hx3
  clear hb3 hx3
  go_upto_region 2 with fail
  rw [← hw3]
  clear hw3
  go_wp2_with fail
  refine (HTN.out w3 _ _ _ B3.out HQ3.out).mono ?_
  rintro e w4 ⟨la', ln', lc', rfl, hq4, hg4, hfr⟩
  have hx4 := (hfr _ _ HX3.out).trans HX3.out
  have HQ4 := Lib.hid hq4
  clear hq4 hfr y0 y1 y2
  have z0 := cellO hx4 0
  have z1 := cellO hx4 1
  have z2 := cellO hx4 2
  have zf : ∀ j, w4.frozen? ⟨w2.heap.size, j, none⟩ = false := fun j => by unfold World.frozen?; rw [hx4]; cases j <;> rfl
  simp at z0 z1 z2
  have B4 := Lib.hid hg4
  obtain ⟨w5, hw5⟩ : ∃ w5, w5 = ((w4.setCell ⟨w2.heap.size, 0, none⟩ (.int .i64 3000)).setCell ⟨w2.heap.size, 1, none⟩ (.slice la' ln' lc')).setCell ⟨w2.heap.size, 2, none⟩ (.int .u32 0) := ⟨_, rfl⟩
  have hx5a := heap_setCell_same _ _ 0 _ _ (.int .i64 3000) hx4
  have hx5b := heap_setCell_same _ _ 1 _ _ (.slice la' ln' lc') hx5a
  have hx5c := heap_setCell_same _ _ 2 _ _ (.int .u32 0) hx5b
  have hq5 := HQS.out _ _ _ _ _ _ (.int .u32 0) (HQS.out _ _ _ _ _ _ (.slice la' ln' lc') (HQS.out _ _ _ _ _ _ (.int .i64 3000) HQ4.out hx4 0) hx5a 1) hx5b 2
  rw [← hw5] at hx5c hq5
  have hx5 : w5.heap[w2.heap.size]? = some (.cells #[.int .i64 3000, .slice la' ln' lc', .int .u32 0] 29 (0, 0)) := hx5c
  have hb5 : Below w.heap.size w w5 := by
    rw [hw5]
    exact ((hg4.setCell (p := ⟨w2.heap.size, 0, none⟩) hs2 _).setCell (p := ⟨w2.heap.size, 1, none⟩) hs2 _).setCell (p := ⟨w2.heap.size, 2, none⟩) hs2 _
  have y0 := cellO hx5 0
  have y1 := cellO hx5 1
  have y2 := cellO hx5 2
  simp at y0 y1 y2
  have B5 := Lib.hid hb5; have HQ5 := Lib.hid hq5
  clear hg4 hx4 hx5a hx5b hx5c hx5 hb5 hq5
  go_upto_region 3 with fail
  rw [← hw5]
  clear hw5 z0 z1 z2 zf
  go_wp2_with fail
  refine (HO.out w5 _ _ _ B5.out HQ5.out).mono ?_
  rintro e w6 ⟨h, B, free, S, M, rfl, hB1, hB2, hH, hc, hG, hg6⟩
  have B6 := Lib.hid (B5.out.trans (hg6.mono B5.out.size)); have HH := Lib.hid hH; have HC := Lib.hid hc; have HG := Lib.hid hG
  have hs5 := B5.out.size
  have CK := Lib.hid (check_sound (root := 4) hH hc (by omega) (by omega) (tab_later HT.out B6.out) (Nat.lt_of_lt_of_le htab B6.out.size))
  clear hg6 y0 y1 y2 hH hc hG HL HTN HO HQS HQ
  have hle := soundN_le S M 3000 4
  obtain ⟨sn, hsn⟩ : ∃ sn, soundN S M 3000 4 = sn := ⟨_, rfl⟩
  have HSN := Lib.hid hsn
  rw [hsn] at CK hle
  clear hsn
  go_wp2_with fail
  refine CK.out.mono ?_
  rintro e w7 ⟨rfl, hg7⟩
  have B7 := Lib.hid (B6.out.trans (hg7.mono B6.out.size)); have HH7 := Lib.hid (HH.out.later hg7)
  have hs7 := hg7.size
  clear hg7 CK
  by_cases hz : sn = 0
  · subst hz
    have hw1 := words_one' w7 4 39
    obtain ⟨w8, hw8⟩ : ∃ w8, w8 = w7.alloc (.cells #[.int .u64 ((4 : Nat) : Int)] 39) := ⟨_, rfl⟩
    rw [← hw8] at hw1
    have hb8 : Below w7.heap.size w7 w8 := by rw [hw8]; exact (Below.refl _ w7).alloc (Nat.le_refl _) _
    have hs8 := hb8.size
    have B8 := Lib.hid (B7.out.trans (hb8.mono B7.out.size))
    have COL := Lib.hid (stays_coll w w8 (HH7.out.later hb8) HC.out (by omega) HG.out (tab_later HT.out B8.out) HSN.out _ hw1)
    clear hw1 hb8
    go_upto_region 9 with fail
    go_wp2_with fail
    rw [show ((4 : Nat) : Int) = 4 from rfl] at hw8
    rw [← hw8]
    refine COL.out.mono ?_
    rintro e w9 ⟨g, P, m, cap, S2, M2, ws, pl, rfl, hb9, hcell, hgl, h9, d1, d2, d3, d4, d5, d6, d7, d8, d9, d10, d11, d12⟩
    have B9 := Lib.hid (B8.out.trans (hb9.mono (by omega)))
    have H9 := Lib.hid h9; have D7 := Lib.hid d7; have D8 := Lib.hid d8; have D9 := Lib.hid d9; have D10 := Lib.hid d10; have D11 := Lib.hid d11; have D12 := Lib.hid d12
    obtain ⟨k1, -, -, k2⟩ := D12.out 3000 d1 (by omega)
    have CK2 := check_sound (root := P * 2) h9 k1 (by omega) (by omega) (tab_later HT.out B9.out) (Nat.lt_of_lt_of_le htab B9.out.size)
    rw [k2] at CK2
    have EN := fun W (hW : Below w9.heap.size w9 W) => encode_big B h 3000 (2 + m) P S2 M2 W (h9.later hW) (by omega) (by omega) (by omega) (by omega) d4 d5
    obtain ⟨pw, hpw⟩ : ∃ pw : Nat, P * 2 = pw := ⟨_, rfl⟩
    rw [show ((P : Int) * 2) = ((P * 2 : Nat) : Int) by omega] at EN
    rw [hpw] at CK2 hcell EN
    have HPW := Lib.hid hpw
    have CKH := Lib.hid CK2; have ENH := Lib.hid EN; have HCE := Lib.hid hcell
    clear hb9 h9 d7 d8 d9 d10 d11 d12 k1 k2 CK2 EN hw8 COL HH HH7 HC HG HSN hpw
    go_wp2_with fail
    refine CKH.out.mono ?_
    rintro e w10 ⟨rfl, hg10⟩
    have B10 := Lib.hid (B9.out.trans (hg10.mono B9.out.size)); have G10 := Lib.hid hg10
    have hc10 := (hg10.cell (p := ⟨g, 0, none⟩) hgl).trans hcell
    clear hg10 CKH hcell
    go_wp2_with fail
    refine (ENH.out w10 G10.out).mono ?_
    rintro e w11 ⟨v, rfl, hov, hg11⟩
    have B11 := Lib.hid (B10.out.trans (hg11.mono B10.out.size))
    have hM : ∀ i, M2 i < 18446744073709551616 := by obtain ⟨g, s, -, -, -, -, -, -, -, h, -⟩ := H9.out; exact h
    obtain ⟨l1, l2, l3, l4⟩ := D12.out 5000 (by omega) (by omega)
    have hbv := bytes_of_owns hov
    rw [← HPW.out] at hbv
    have DE := stays_dec v w11 hbv (tab_later HT.out B11.out) hM d1 d2 d3 d4 d5 d6 D7.out D8.out D9.out D10.out D11.out l2 l3
    rw [HPW.out] at DE l4
    obtain ⟨va, vn, vc, rfl⟩ := owns_slice hov
    have DEH := Lib.hid DE; have L1 := Lib.hid l1; have L4 := Lib.hid l4
    clear hg11 hov hbv DE l1 l2 l3 l4 hM hc10 ENH
    go_wp2_with fail
    refine DEH.out.mono ?_
    rintro e w12 ⟨h', B', rfl, hB', h12, hg12⟩
    have B12 := Lib.hid (B11.out.trans (hg12.mono B11.out.size))
    have CK3 := check_sound (root := pw) h12 L1.out (by omega) (by have := HPW.out; omega) (tab_later HT.out B12.out) (Nat.lt_of_lt_of_le htab B12.out.size)
    rw [L4.out] at CK3
    have CKH := Lib.hid CK3
    clear hg12 h12 CK3 DEH
    go_wp2_with fail
    refine CKH.out.mono ?_
    rintro e w13 ⟨rfl, hg13⟩
    have B13 := Lib.hid (B12.out.trans (hg13.mono B12.out.size))
    clear hg13 CKH
    go_wp2_with fail
    go_ret
    exact ⟨by simp, B13.out⟩
  · have hz1 : 0 < sn := by omega
    have hz2 : sn < 10 := by omega
    clear hz
    go_wp2_with fail
    all_goals try (exfalso; go_light; omega)
    go_ret
    exact ⟨by simp; try omega, B7.out⟩
end Go.Proofs.YtibopjjicfiimaaGreatDoor
