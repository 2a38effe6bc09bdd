/- Events as text, in plain Lean: nothing of the program. -/
import Derived.KernelRfl
import Derived.Lib.Strings
namespace Go.Proofs.Ytffmkmhnhecmnaa
/-- a digit -/
def hexD (n : Nat) : UInt8 := if n < 10 then UInt8.ofNat (48 + n) else UInt8.ofNat (87 + n)
/-- is a byte shown as it is? -/
def plainB (c : UInt8) : Bool := decide (32 ≤ c.toNat ∧ c.toNat ≤ 126 ∧ c.toNat ≠ 34 ∧ c.toNat ≠ 92)
/-- a byte as it is shown -/
def qB (c : UInt8) : List UInt8 := if plainB c then [c] else [92, hexD (c.toNat / 16), hexD (c.toNat % 16)]
def qAll (l : List UInt8) : List UInt8 := l.flatMap qB
def quoteL (l : List UInt8) : List UInt8 := 34 :: (qAll l ++ [34])
theorem qB_len (c : UInt8) : (qB c).length ≤ 3 := by unfold qB; split <;> simp
theorem qAll_len (l : List UInt8) : (qAll l).length ≤ 3 * l.length := by
  unfold qAll
  induction l with
  | nil => simp
  | cons c l ih => simp only [List.flatMap_cons, List.length_append, List.length_cons]; have := qB_len c; omega
theorem qAll_snoc (l : List UInt8) (c : UInt8) : qAll (l ++ [c]) = qAll l ++ qB c := by simp [qAll]
/-- an event -/
structure Ev where
  kind : Int
  bytes : List UInt8
  name : List UInt8
/-- "out ", "fault ", "saved", "?" as bytes -/
def sOut : List UInt8 := [111, 117, 116, 32]
def sFault : List UInt8 := [102, 97, 117, 108, 116, 32]
def sSaved : List UInt8 := [115, 97, 118, 101, 100]
def sNone : List UInt8 := [63]
/-- its line -/
def lineL (e : Ev) : List UInt8 := if e.kind = 1 then sOut ++ quoteL e.bytes else if e.kind = 2 then sFault ++ quoteL e.name else if e.kind = 3 then sSaved else sNone
def textL (l : List Ev) : List UInt8 := l.flatMap fun e => lineL e ++ [10]
def shownL (l : List Ev) : List UInt8 := l.flatMap fun e => if e.kind = 1 then e.bytes else []
theorem lineL_len (e : Ev) (h1 : e.bytes.length ≤ 200) (h2 : e.name.length ≤ 200) : (lineL e).length ≤ 700 := by
  unfold lineL quoteL
  have a1 := qAll_len e.bytes
  have a2 := qAll_len e.name
  repeat' split
  all_goals simp [sOut, sFault, sSaved, sNone]
  all_goals omega
theorem textL_append (l m : List Ev) : textL (l ++ m) = textL l ++ textL m := by simp [textL]
theorem shownL_append (l m : List Ev) : shownL (l ++ m) = shownL l ++ shownL m := by simp [shownL]
/-- are two the same, as far as it is told? -/
def sameEv (a b : Ev) : Bool := decide (a.kind = b.kind) && (lineL a == lineL b)
/-- how many are the same at the beginning -/
def commonL : List Ev → List Ev → Nat
  | a :: l, b :: m => if sameEv a b then commonL l m + 1 else 0
  | _, _ => 0
theorem sameEv_refl (a : Ev) : sameEv a a = true := by simp [sameEv]
theorem sameEv_comm (a b : Ev) : sameEv a b = sameEv b a := by
  unfold sameEv
  rw [Bool.eq_iff_iff]
  simp only [Bool.and_eq_true, decide_eq_true_eq, beq_iff_eq]
  exact ⟨fun h => ⟨h.1.symm, h.2.symm⟩, fun h => ⟨h.1.symm, h.2.symm⟩⟩
theorem commonL_comm (l m : List Ev) : commonL l m = commonL m l := by
  induction l generalizing m with
  | nil => cases m <;> simp [commonL]
  | cons a l ih =>
    cases m with
    | nil => simp [commonL]
    | cons b m => simp only [commonL]; rw [sameEv_comm, ih]
theorem commonL_le (l m : List Ev) : commonL l m ≤ l.length ∧ commonL l m ≤ m.length := by
  induction l generalizing m with
  | nil => simp [commonL]
  | cons a l ih =>
    cases m with
    | nil => simp [commonL]
    | cons b m =>
      simp only [commonL, List.length_cons]
      have := ih m
      split <;> omega
theorem commonL_self_append (l m : List Ev) : commonL l (l ++ m) = l.length := by
  induction l with
  | nil => simp [commonL]
  | cons a l ih => simp [commonL, sameEv_refl, ih]
/-- the loop's own view: so many are the same from a place on -/
theorem commonL_drop (l m : List Ev) (n : Nat) (h : ∀ i, i < n → ∃ a b, l[i]? = some a ∧ m[i]? = some b ∧ sameEv a b = true)
    (hend : ∀ a b, l[n]? = some a → m[n]? = some b → sameEv a b = false) : commonL l m = n := by
  induction n generalizing l m with
  | zero =>
    cases l with
    | nil => simp [commonL]
    | cons a l =>
      cases m with
      | nil => simp [commonL]
      | cons b m => have := hend a b rfl rfl; simp [commonL, this]
  | succ n ih =>
    obtain ⟨a, b, ha, hb, hs⟩ := h 0 (by omega)
    cases l with
    | nil => simp at ha
    | cons a' l =>
      cases m with
      | nil => simp at hb
      | cons b' m =>
        simp at ha hb
        subst ha hb
        simp only [commonL, hs, if_true]
        rw [ih l m (fun i hi => by simpa using h (i + 1) (by omega)) (fun a b ha hb => hend a b (by simpa using ha) (by simpa using hb))]
end Go.Proofs.Ytffmkmhnhecmnaa
