/- What a collection makes of memory: the plain law of the words. Memory behind a collection: what stays stands together, and leads to the same. -/
import Derived.Test.YtibopjjicfiimaaGreatDoorMarkN
import Derived.Test.YtibopjjicfiimaaGreatDoorLoadB
namespace Go.Proofs.YtibopjjicfiimaaGreatDoor
open Go.RowKit
set_option linter.unusedVariables false
/-- a word, as it is when all that stays stands together -/
def turnM (M : Nat → Nat) (T : Nat → Bool) (x : Nat) : Nat := if (x % 2 = 0 ∧ x ≠ 0 ∧ x < 33554432) ∧ T (x / 2) = true then (2 + ksum M T (x / 2)) * 2 else x
/-- an object's words, turned -/
def objW (M : Nat → Nat) (T : Nat → Bool) (a : Nat) : List Nat :=
  turnM M T (M a) :: M (a + 1) :: (List.range (cz M a)).map fun i => if hK (M (a + 1)) = 2 then M (a + 2 + i) else turnM M T (M (a + 2 + i))
theorem objW_len (M : Nat → Nat) (T : Nat → Bool) (a : Nat) : (objW M T a).length = 2 + cz M a := by simp [objW]; omega
/-- the words of all that stays below a place -/
def allW (M : Nat → Nat) (T : Nat → Bool) : Nat → List Nat
  | 0 => []
  | n + 1 => allW M T n ++ if T n = true then objW M T n else []
/-- where they will stand -/
def plW (M : Nat → Nat) (T : Nat → Bool) : Nat → List Nat
  | 0 => []
  | n + 1 => plW M T n ++ if T n = true then [2 + ksum M T n] else []
theorem allW_len (M : Nat → Nat) (T : Nat → Bool) (n : Nat) : (allW M T n).length = ksum M T n := by
  induction n with
  | zero => rfl
  | succ n ih =>
    unfold allW ksum
    rw [List.length_append, ih]
    split
    · rw [objW_len]
    · rfl
theorem plW_len (M : Nat → Nat) (T : Nat → Bool) (n : Nat) : (plW M T n).length = cnt T n := by
  induction n with
  | zero => rfl
  | succ n ih =>
    unfold plW cnt
    rw [List.length_append, ih]
    cases T n <;> rfl
theorem allW_pre (M : Nat → Nat) (T : Nat → Bool) (n d : Nat) : ∃ r, allW M T (n + d) = allW M T n ++ r := by
  induction d with
  | zero => exact ⟨[], by simp⟩
  | succ d ih =>
    obtain ⟨r, hr⟩ := ih
    exact ⟨r ++ if T (n + d) = true then objW M T (n + d) else [], by
      rw [show n + (d + 1) = (n + d) + 1 by omega]
      show allW M T (n + d) ++ _ = _
      rw [hr, List.append_assoc]⟩
theorem plW_pre (M : Nat → Nat) (T : Nat → Bool) (n d : Nat) : ∃ r, plW M T (n + d) = plW M T n ++ r := by
  induction d with
  | zero => exact ⟨[], by simp⟩
  | succ d ih =>
    obtain ⟨r, hr⟩ := ih
    exact ⟨r ++ if T (n + d) = true then [2 + ksum M T (n + d)] else [], by
      rw [show n + (d + 1) = (n + d) + 1 by omega]
      show plW M T (n + d) ++ _ = _
      rw [hr, List.append_assoc]⟩
/-- nothing stays between: nothing is added -/
theorem skip_all {M : Nat → Nat} {T : Nat → Bool} {n d : Nat} (h : ∀ j, n ≤ j → j < n + d → T j = false) : allW M T (n + d) = allW M T n ∧ plW M T (n + d) = plW M T n ∧ ksum M T (n + d) = ksum M T n ∧ cnt T (n + d) = cnt T n := by
  induction d with
  | zero => exact ⟨rfl, rfl, rfl, rfl⟩
  | succ d ih =>
    obtain ⟨h1, h2, h3, h4⟩ := ih (fun j a b => h j a (by omega))
    have hT := h (n + d) (by omega) (by omega)
    refine ⟨?_, ?_, ?_, ?_⟩
    · show allW M T (n + d) ++ (if T (n + d) = true then _ else _) = _
      rw [hT, h1]; simp
    · show plW M T (n + d) ++ (if T (n + d) = true then _ else _) = _
      rw [hT, h2]; simp
    · show ksum M T (n + d) + (if T (n + d) = true then _ else _) = _
      rw [hT, h3]; simp
    · show cnt T (n + d) + (T (n + d)).toNat = _
      rw [hT, h4]; rfl
theorem allW_at {M : Nat → Nat} {T : Nat → Bool} {N a k : Nat} (ha : a < N) (hT : T a = true) (hk : k < 2 + cz M a) : loadM (allW M T N) (2 + ksum M T a + k) = (objW M T a).getD k 0 := by
  have h1 : allW M T (a + 1) = allW M T a ++ objW M T a := by show allW M T a ++ (if T a = true then _ else _) = _; rw [if_pos hT]
  obtain ⟨r, hr⟩ := allW_pre M T (a + 1) (N - (a + 1))
  rw [show a + 1 + (N - (a + 1)) = N by omega, h1] at hr
  have hl := allW_len M T a
  have ho := objW_len M T a
  have hlen : ksum M T a + k < (allW M T N).length := by rw [hr]; simp only [List.length_append]; omega
  unfold loadM
  rw [if_pos ⟨by omega, by omega⟩, hr, show 2 + ksum M T a + k - 2 = ksum M T a + k by omega, List.getD_eq_getElem?_getD, List.getD_eq_getElem?_getD, List.append_assoc, List.getElem?_append_right (by omega), hl, Nat.add_sub_cancel_left, List.getElem?_append_left (by omega)]
theorem plW_at {M : Nat → Nat} {T : Nat → Bool} {N a : Nat} (ha : a < N) (hT : T a = true) : (plW M T N)[cnt T a]? = some (2 + ksum M T a) := by
  have h1 : plW M T (a + 1) = plW M T a ++ [2 + ksum M T a] := by show plW M T a ++ (if T a = true then _ else _) = _; rw [if_pos hT]
  obtain ⟨r, hr⟩ := plW_pre M T (a + 1) (N - (a + 1))
  rw [show a + 1 + (N - (a + 1)) = N by omega, h1] at hr
  rw [hr, List.append_assoc, List.getElem?_append_right (by rw [plW_len]; exact Nat.le_refl _), plW_len, Nat.sub_self]
  rfl
theorem plW_mem {M : Nat → Nat} {T : Nat → Bool} {N x : Nat} : x ∈ plW M T N ↔ ∃ a, a < N ∧ T a = true ∧ x = 2 + ksum M T a := by
  induction N with
  | zero => simp [plW]
  | succ n ih =>
    unfold plW
    rw [List.mem_append, ih]
    constructor
    · rintro (⟨a, h1, h2, h3⟩ | h)
      · exact ⟨a, by omega, h2, h3⟩
      · by_cases hT : T n = true
        · rw [if_pos hT] at h; exact ⟨n, by omega, hT, by simpa using h⟩
        · rw [if_neg hT] at h; cases h
    · rintro ⟨a, h1, h2, h3⟩
      by_cases han : a = n
      · subst han; exact Or.inr (by rw [if_pos h2]; simpa using h3)
      · exact Or.inl ⟨a, by omega, h2, h3⟩
theorem ksum_le (M : Nat → Nat) (T : Nat → Bool) (n d : Nat) : ksum M T n ≤ ksum M T (n + d) := by
  induction d with
  | zero => exact Nat.le_refl _
  | succ d ih => exact Nat.le_trans ih (Nat.le_add_right _ _)
theorem ksum_obj {M : Nat → Nat} {T : Nat → Bool} {a N : Nat} (ha : a < N) (hT : T a = true) : ksum M T a + 2 + cz M a ≤ ksum M T N := by
  have h := ksum_le M T (a + 1) (N - (a + 1))
  rw [show a + 1 + (N - (a + 1)) = N by omega] at h
  have h1 : ksum M T (a + 1) = ksum M T a + (2 + cz M a) := by show ksum M T a + (if T a = true then _ else _) = _; rw [if_pos hT]
  omega
/-- places of different objects are different -/
theorem ksum_inj {M : Nat → Nat} {T : Nat → Bool} {a b : Nat} (ha : T a = true) (hb : T b = true) (h : ksum M T a = ksum M T b) : a = b := by
  rcases Nat.lt_trichotomy a b with hl | hl | hl
  · have := ksum_obj (M := M) hl ha; omega
  · exact hl
  · have := ksum_obj (M := M) hl hb; omega
end Go.Proofs.YtibopjjicfiimaaGreatDoor
namespace Go.Proofs.YtibopjjicfiimaaGreatDoor
open Go.RowKit
set_option linter.unusedVariables false
/-- a raw object's last word isn't full; what it has beyond its bytes is nought -/
def TailOK (M : Nat → Nat) (a : Nat) : Prop := hK (M (a + 1)) = 2 → 0 < hS (M (a + 1)) % 8 ∧ M (a + 2 + cz M a - 1) / 2 ^ (8 * (hS (M (a + 1)) % 8).toNat) = 0
/-- memory that can be collected: objects of any size, without numbers of their own -/
structure CollOK (N : Nat) (S : Nat → Bool) (M : Nat → Nat) : Prop where
  obj : ∀ a, S a = true → 2 ≤ a ∧ a + 2 + cz M a ≤ N ∧ UnOK (M a) (M (a + 1)) ∧ hH (M (a + 1)) = 0 ∧ TailOK M a
  small : ∀ i, M i < 18446744073709551616
  most : N ≤ 16777216
  fit : 2 + ksum M S N ≤ N
/-- what stays: all that the words lead to, and nothing is loose -/
structure Stay (S : Nat → Bool) (M : Nat → Nat) (R : List Nat) (T : Nat → Bool) : Prop where
  iff : ∀ a, T a = true ↔ Wd S M R (a * 2) ∧ S a = true
  good : ¬ Bad S M R
theorem cz4 {M : Nat → Nat} {a : Nat} (hU : UnOK (M a) (M (a + 1))) (hb : M (a + 1) < 18446744073709551616) : cz M a = if hK (M (a + 1)) = 2 then ((hS (M (a + 1)) + 7) / 8).toNat else (hS (M (a + 1))).toNat := by
  have hc := unOK_check hU (by omega) (by omega)
  unfold cz cellsZ
  rw [if_pos hc]
  by_cases hk : hK (M (a + 1)) = 2
  · rw [if_pos hk, if_pos hk]
  · rw [if_neg hk, if_neg hk]
def npl (M : Nat → Nat) (T : Nat → Bool) (a : Nat) : Nat := 2 + ksum M T a
abbrev newM (N : Nat) (M : Nat → Nat) (T : Nat → Bool) : Nat → Nat := loadM (allW M T N)
theorem turn_obj {M : Nat → Nat} {T : Nat → Bool} {a : Nat} (h0 : a ≠ 0) (h1 : a < 16777216) (hT : T a = true) : turnM M T (a * 2) = npl M T a * 2 := by
  have e : a * 2 / 2 = a := by omega
  unfold turnM
  rw [e, if_pos ⟨⟨by omega, by omega, by omega⟩, hT⟩]; rfl
theorem turn_zero (M : Nat → Nat) (T : Nat → Bool) : turnM M T 0 = 0 := by unfold turnM; rw [if_neg (by simp)]
theorem turn_odd (M : Nat → Nat) (T : Nat → Bool) {x : Nat} (h : x % 2 = 1) : turnM M T x = x := by unfold turnM; rw [if_neg (by omega)]
section
variable {N : Nat} {S T : Nat → Bool} {M : Nat → Nat} {R : List Nat}
theorem Stay.sub (h : Stay S M R T) {a : Nat} (ha : T a = true) : S a = true := ((h.iff a).1 ha).2
theorem CollOK.lt (c : CollOK N S M) {a : Nat} (ha : S a = true) : a < N ∧ a < 16777216 ∧ 2 ≤ a := by
  obtain ⟨h1, h2, -⟩ := c.obj a ha
  have := c.most
  omega
theorem Stay.room (c : CollOK N S M) (h : Stay S M R T) : 2 + ksum M T N ≤ N := by
  have := ksum_mono (M := M) (T := T) (T' := S) (fun j hj => h.sub hj) N
  have := c.fit
  omega
theorem new_cls (c : CollOK N S M) (h : Stay S M R T) {a : Nat} (ha : T a = true) : newM N M T (npl M T a) = turnM M T (M a) := by
  have h1 := allW_at (M := M) (T := T) (N := N) (k := 0) (c.lt (h.sub ha)).1 ha (by omega)
  rw [Nat.add_zero] at h1
  exact h1
theorem new_head (c : CollOK N S M) (h : Stay S M R T) {a : Nat} (ha : T a = true) : newM N M T (npl M T a + 1) = M (a + 1) :=
  allW_at (M := M) (T := T) (N := N) (k := 1) (c.lt (h.sub ha)).1 ha (by omega)
theorem new_word (c : CollOK N S M) (h : Stay S M R T) {a i : Nat} (ha : T a = true) (hi : i < cz M a) : newM N M T (npl M T a + 2 + i) = if hK (M (a + 1)) = 2 then M (a + 2 + i) else turnM M T (M (a + 2 + i)) := by
  have h1 := allW_at (M := M) (T := T) (N := N) (k := 2 + i) (c.lt (h.sub ha)).1 ha (by omega)
  rw [show npl M T a + 2 + i = 2 + ksum M T a + (2 + i) by unfold npl; omega]
  show loadM (allW M T N) (2 + ksum M T a + (2 + i)) = _
  rw [h1, List.getD_eq_getElem?_getD, objW, show 2 + i = i + 1 + 1 by omega, List.getElem?_cons_succ, List.getElem?_cons_succ, List.getElem?_map, List.getElem?_range hi]
  rfl
theorem turn_cls (c : CollOK N S M) (h : Stay S M R T) {a : Nat} (ha : S a = true) : turnM M T (M a) ≠ 0 ∧ turnM M T (M a) % 2 = 0 := by
  obtain ⟨-, -, ⟨u1, u2, -⟩, -⟩ := c.obj a ha
  unfold turnM
  split
  · omega
  · omega
theorem new_un (c : CollOK N S M) (h : Stay S M R T) {a : Nat} (ha : T a = true) : UnOK (newM N M T (npl M T a)) (newM N M T (npl M T a + 1)) := by
  obtain ⟨-, -, ⟨u1, u2, u3, u4, u5⟩, -⟩ := c.obj a (h.sub ha)
  obtain ⟨t1, t2⟩ := turn_cls c h (h.sub ha)
  rw [new_cls c h ha, new_head c h ha]
  exact ⟨by omega, by omega, u3, u4, u5⟩
theorem turn_small (c : CollOK N S M) (h : Stay S M R T) {x : Nat} (hx : x < 18446744073709551616) : turnM M T x < 18446744073709551616 := by
  unfold turnM
  split
  · rename_i hc
    have hT := (c.lt (h.sub hc.2)).1
    have := ksum_bd M T (x / 2)
    have := c.most
    omega
  · exact hx
theorem new_small (c : CollOK N S M) (h : Stay S M R T) : SmallW (allW M T N) := by
  have key : ∀ n, SmallW (allW M T n) := by
    intro n
    induction n with
    | zero => intro x hx; cases hx
    | succ n ih =>
      intro x hx
      rcases List.mem_append.1 hx with hx | hx
      · exact ih x hx
      · split at hx
        · rcases List.mem_cons.1 hx with rfl | hx
          · exact turn_small c h (c.small _)
          · rcases List.mem_cons.1 hx with rfl | hx
            · exact c.small _
            · obtain ⟨i, -, rfl⟩ := List.mem_map.1 hx
              split
              · exact c.small _
              · exact turn_small c h (c.small _)
        · cases hx
  exact key N
theorem new_cz (c : CollOK N S M) (h : Stay S M R T) {a : Nat} (ha : T a = true) : cz (newM N M T) (npl M T a) = cz M a := by
  obtain ⟨-, -, u, -⟩ := c.obj a (h.sub ha)
  have e := new_head c h ha
  rw [cz4 (new_un c h ha) (by rw [e]; exact c.small _), e, cz4 u (c.small _)]
theorem new_tail (c : CollOK N S M) (h : Stay S M R T) {a : Nat} (ha : T a = true) : TailOK (newM N M T) (npl M T a) := by
  obtain ⟨-, -, u, -, ht⟩ := c.obj a (h.sub ha)
  have e := new_head c h ha
  intro hk
  rw [new_cz c h ha]
  rw [e] at hk ⊢
  obtain ⟨hr, hz⟩ := ht hk
  have h1 := cz4 u (c.small _)
  rw [if_pos hk] at h1
  have hs : 0 ≤ hS (M (a + 1)) := by unfold hS; omega
  have hw := new_word c h ha (i := cz M a - 1) (by omega)
  rw [if_pos hk] at hw
  refine ⟨hr, ?_⟩
  rw [show npl M T a + 2 + cz M a - 1 = npl M T a + 2 + (cz M a - 1) by omega, hw, show a + 2 + (cz M a - 1) = a + 2 + cz M a - 1 by omega]
  exact hz
theorem cells_cz {M : Nat → Nat} {a : Nat} (hh : hH (M (a + 1)) = 0) : cellsM M a = cz M a := by unfold cellsM cz; rw [hh]
/-- they stand one behind the other -/
theorem new_chain (c : CollOK N S M) (h : Stay S M R T) : Chain4 (newM N M T) (2 + ksum M T N) 2 (plW M T N) := by
  have key : ∀ d n, n + d = N → ∀ r, plW M T N = plW M T n ++ r → Chain4 (newM N M T) (2 + ksum M T N) (2 + ksum M T n) r := by
    intro d
    induction d with
    | zero =>
      intro n hn r hr
      obtain rfl : n = N := by omega
      have : r = [] := by
        have h1 := congrArg List.length hr
        rw [List.length_append] at h1
        exact List.eq_nil_of_length_eq_zero (by omega)
      subst this
      exact rfl
    | succ d ih =>
      intro n hn r hr
      obtain ⟨r2, hr2⟩ := plW_pre M T (n + 1) (N - (n + 1))
      rw [show n + 1 + (N - (n + 1)) = N by omega] at hr2
      have h2 := ih (n + 1) (by omega) r2 hr2
      have hp : plW M T (n + 1) = plW M T n ++ if T n = true then [2 + ksum M T n] else [] := rfl
      rw [hp, List.append_assoc, hr] at hr2
      have hre := List.append_cancel_left hr2
      by_cases hT : T n = true
      · rw [if_pos hT] at hre
        have e := new_head c h hT
        obtain ⟨-, -, u, hh, -⟩ := c.obj n (h.sub hT)
        have hcc : cellsM (newM N M T) (2 + ksum M T n) = cz M n := by
          rw [cells_cz (show hH ((newM N M T (2 + ksum M T n + 1) : Nat) : Int) = 0 by rw [show newM N M T (2 + ksum M T n + 1) = M (n + 1) from e]; exact hh)]
          exact new_cz c h hT
        rw [hre]
        refine ⟨rfl, ⟨new_un c h hT, by rw [show newM N M T (2 + ksum M T n + 1) = M (n + 1) from e]; exact hh, fun hk hr => ?_⟩, ?_⟩
        · have h1 := new_tail c h hT hk
          unfold npl at h1
          rw [cells_cz (show hH ((newM N M T (2 + ksum M T n + 1) : Nat) : Int) = 0 by rw [show newM N M T (2 + ksum M T n + 1) = M (n + 1) from e]; exact hh)]
          exact h1.2
        · rw [hcc, show 2 + ksum M T n + 2 + cz M n = 2 + ksum M T (n + 1) by show _ = 2 + (ksum M T n + if T n = true then _ else _); rw [if_pos hT]; omega]
          exact h2
      · rw [if_neg hT] at hre
        rw [hre, show ksum M T n = ksum M T (n + 1) by show _ = ksum M T n + if T n = true then _ else _; rw [if_neg hT]; rfl]
        exact h2
  exact key N 0 (by omega) (plW M T N) rfl
end
end Go.Proofs.YtibopjjicfiimaaGreatDoor
