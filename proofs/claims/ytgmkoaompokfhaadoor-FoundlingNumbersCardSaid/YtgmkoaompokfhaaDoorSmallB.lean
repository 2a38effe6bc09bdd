/- A number's digits, and back. -/
import Derived.Test.YtgmkoaompokfhaaDoorSmall
import Derived.Test.YtgmkoaompokfhaaDoorShelf
import Derived.Shelf.Strings.SlTrimAscii
import Derived.Lib.ItoaMem
import Derived.Lib.ParseIntB
namespace Go.Proofs.YtgmkoaompokfhaaDoor
open Go.RowKit Go.Sort
set_option linter.unusedVariables false
def dg (c : UInt8) : Prop := 48 ≤ c.toNat ∧ c.toNat ≤ 57
theorem dec_small {u : Nat} (h : u < 10) : Lib.decDigits u = [UInt8.ofNat (48 + u)] := Lib.decDigits_one h
theorem dec_big {u : Nat} (h : ¬ u < 10) : Lib.decDigits u = Lib.decDigits (u / 10) ++ [UInt8.ofNat (48 + u % 10)] := by rw [Lib.decDigits, dif_neg h]
theorem ofNat_dg {d : Nat} (h : d < 10) : (UInt8.ofNat (48 + d)).toNat = 48 + d := by simp; omega
theorem dec_digits (u : Nat) : ∀ c, c ∈ Lib.decDigits u → dg c := by
  induction u using Nat.strongRecOn with
  | _ u ih =>
    intro c hc
    by_cases h : u < 10
    · rw [dec_small h] at hc
      have : c = UInt8.ofNat (48 + u) := by simpa using hc
      rw [this]; unfold dg; rw [ofNat_dg h]; omega
    · rw [dec_big h] at hc
      rcases List.mem_append.1 hc with hc | hc
      · exact ih (u / 10) (by omega) c hc
      · have : c = UInt8.ofNat (48 + u % 10) := by simpa using hc
        rw [this]; unfold dg; rw [ofNat_dg (by omega)]; omega
theorem dec_ne (u : Nat) : Lib.decDigits u ≠ [] := by
  by_cases h : u < 10
  · rw [dec_small h]; simp
  · rw [dec_big h]; simp
theorem parse_app (M : Nat) (l r : List UInt8) (acc v : Nat) (h : Lib.parseUintM M acc l = .ok v) : Lib.parseUintM M acc (l ++ r) = Lib.parseUintM M v r := by
  induction l generalizing acc with
  | nil => unfold Lib.parseUintM at h; injection h with h; subst h; rfl
  | cons c l ih =>
    rw [List.cons_append]
    unfold Lib.parseUintM at h
    conv => lhs; unfold Lib.parseUintM
    split at h
    · split at h
      · cases h
      · split at h
        · cases h
        · rename_i h1 h2 h3
          rw [if_pos h1, if_neg h2, if_neg h3]
          exact ih _ h
    · cases h
theorem parse_dec (M u : Nat) (hM : u ≤ M) (hu : u ≤ 4611686018427387904) (hM9 : 9 ≤ M) : Lib.parseUintM M 0 (Lib.decDigits u) = .ok u := by
  induction u using Nat.strongRecOn with
  | _ u ih =>
    have one : ∀ acc d, d < 10 → acc * 10 + d ≤ M → acc < 1844674407370955162 → Lib.parseUintM M acc [UInt8.ofNat (48 + d)] = .ok (acc * 10 + d) := by
      intro acc d hd h1 h2
      unfold Lib.parseUintM
      rw [ofNat_dg hd, if_pos (by omega), if_neg (by omega), if_neg (by omega)]
      unfold Lib.parseUintM
      congr 1
      omega
    by_cases h : u < 10
    · rw [dec_small h, one 0 u h (by omega) (by omega)]
      congr 1; omega
    · rw [dec_big h, parse_app M _ _ 0 (u / 10) (ih (u / 10) (by omega) (by omega) (by omega)), one (u / 10) (u % 10) (by omega) (by omega) (by omega)]
      congr 1; omega
theorem parse_itoa (n : Int) (h0 : -4611686018427387904 ≤ n) (h1 : n ≤ 4611686018427387903) : Lib.parseIntB 64 (Lib.itoa n) = .ok n := by
  by_cases hn : n < 0
  · obtain ⟨m, rfl⟩ : ∃ m : Nat, n = -(m : Int) := ⟨n.natAbs, by omega⟩
    rw [Lib.itoa_neg m (by omega)]
    unfold Lib.parseIntB Lib.parseUintB
    simp only [show (45 : UInt8).toNat = 45 from rfl]
    rw [if_pos (Or.inr trivial), if_neg (dec_ne m), parse_dec _ m (by omega) (by omega) (by omega)]
    simp
    omega
  · obtain ⟨m, rfl⟩ : ∃ m : Nat, n = (m : Int) := ⟨n.toNat, by omega⟩
    rw [Lib.itoa_nonneg]
    cases hd : Lib.decDigits m with
    | nil => exact absurd hd (dec_ne m)
    | cons c r =>
      have hc := dec_digits m c (by rw [hd]; simp)
      unfold dg at hc
      have hp := parse_dec (2 ^ 64 - 1) m (by omega) (by omega) (by omega)
      rw [hd] at hp
      unfold Lib.parseIntB Lib.parseUintB
      dsimp only
      have e : (if c.toNat = 43 ∨ c.toNat = 45 then r else c :: r) = c :: r := if_neg (by omega)
      have h45 : ¬ c.toNat = 45 := by omega
      rw [e, if_neg (by simp), hp]
      simp [h45]
      omega
theorem trim_dec (u : Nat) : Lib.trimS (Lib.decDigits u) [48, 49, 50, 51, 52, 53, 54, 55, 56, 57] = [] := by
  have key : ∀ l : List UInt8, (∀ c, c ∈ l → dg c) → l.dropWhile (([48, 49, 50, 51, 52, 53, 54, 55, 56, 57] : List UInt8).contains ·) = [] := by
    intro l
    induction l with
    | nil => intro _; rfl
    | cons c l ih =>
    intro h
    have := h c (by simp)
    rw [List.dropWhile_cons_of_pos ?_]
    · exact ih fun x hx => h x (List.mem_cons_of_mem _ hx)
    unfold dg at this
    have hx : c = UInt8.ofNat c.toNat := by simp
    rw [hx]
    obtain ⟨h1, h2⟩ := this
    generalize c.toNat = k at *
    have : k = 48 ∨ k = 49 ∨ k = 50 ∨ k = 51 ∨ k = 52 ∨ k = 53 ∨ k = 54 ∨ k = 55 ∨ k = 56 ∨ k = 57 := by omega
    rcases this with rfl | rfl | rfl | rfl | rfl | rfl | rfl | rfl | rfl | rfl <;> decide
  unfold Lib.trimS Lib.trimRightS
  rw [key _ (fun c hc => dec_digits u c (by simpa using hc))]
  rfl
end Go.Proofs.YtgmkoaompokfhaaDoor
