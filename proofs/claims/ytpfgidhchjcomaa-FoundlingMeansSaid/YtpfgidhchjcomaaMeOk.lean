/- What Check passes resolving can read. -/
import Derived.Test.YtpfgidhchjcomaaMeResC
namespace Go.Proofs.Ytpfgidhchjcomaa
open Go.RowKit
set_option linter.unusedVariables false
/-- at most 200 nodes at each place -/
def lenL : Nat → List Nd → Prop
  | 0, l => l.length ≤ 200
  | d + 1, l => l.length ≤ 200 ∧ ∀ n, n ∈ l → lenL d n.kids
theorem lenL.len {d : Nat} {l : List Nd} (h : lenL d l) : l.length ≤ 200 := by
  cases d with
  | zero => exact h
  | succ d => exact h.1
theorem okI_of {n : Nd} (h1 : shapeB n = true) (h2 : kidsB n = true) (hl : n.kids.length ≤ 200) : okI n := by
  refine ⟨hl, shape_kids7 h1, shape_kids8 h1, fun h9 => ?_, fun h4 m hm => ?_⟩
  · unfold shapeB at h1
    simp [h9] at h1
    omega
  · by_cases e : n.kind = 4
    · unfold kidsB at h2
      rw [if_pos e, List.all_eq_true] at h2
      exact h2 m hm
    · exfalso
      have : n.kids = [] := by
        rcases (show n.kind = 1 ∨ n.kind = 2 ∨ n.kind = 3 by omega) with e | e | e <;>
        · unfold shapeB bareB at h1
          simp [e] at h1
          first | exact List.length_eq_zero_iff.1 (by omega) | simp_all
      rw [this] at hm
      cases hm
theorem okL_fits : ∀ (d : Nat) (l : List Nd), (∀ n, n ∈ l → ∃ may, fitsB d n may = true) → lenL (d + 1) l → okL (d + 1) l
  | 0, l, h, hl => ⟨hl.1, fun n hn => by
    obtain ⟨may, hf⟩ := h n hn
    unfold fitsB fitB1 at hf
    simp only [Bool.and_eq_true] at hf
    exact ⟨okI_of hf.1.1.1 hf.1.1.2 (hl.2 n hn).len, trivial⟩⟩
  | d + 1, l, h, hl => ⟨hl.1, fun n hn => by
    obtain ⟨may, hf⟩ := h n hn
    unfold fitsB fitB1 at hf
    simp only [Bool.and_eq_true] at hf
    have h3 := hf.2
    unfold kidsAll at h3
    exact ⟨okI_of hf.1.1.1 hf.1.1.2 (hl.2 n hn).len, okL_fits d n.kids (fun k hk => by
    obtain ⟨i, hi, rfl⟩ := List.mem_iff_getElem.1 hk
    have h4 := List.all_eq_true.1 h3 i (List.mem_range.2 hi)
    rw [List.getElem?_eq_getElem hi] at h4
    exact ⟨_, h4⟩) (hl.2 n hn)⟩⟩
theorem check_fits {d : Nat} {nm : ByteArray} {ps ts : List ByteArray} {pr : Int} {l : List Nd} (h : checkM d nm ps ts pr l = 0) : headB nm ps ts pr l = false ∧ ∀ n, n ∈ l → fitsB d n false = true := by
  unfold checkM at h
  cases h1 : headB nm ps ts pr l with
  | true => rw [h1] at h; simp at h
  | false =>
    rw [h1] at h
    simp only [Bool.false_eq_true, if_false] at h
    cases h2 : (l.all fun n => fitsB d n false) with
    | false => rw [h2] at h; simp at h
    | true => exact ⟨rfl, fun n hn => List.all_eq_true.1 h2 n hn⟩
theorem okL_check {d : Nat} {nm : ByteArray} {ps ts : List ByteArray} {pr : Int} {l : List Nd} (h : checkM d nm ps ts pr l = 0) (hl : lenL (d + 1) l) : okL (d + 1) l := okL_fits d l (fun n hn => ⟨false, (check_fits h).2 n hn⟩) hl
/-- what Resolve gives -/
def resolveM (F G : List ByteArray) (d : Nat) (nm : ByteArray) (ps ts : List ByteArray) (pr : Int) (l : List Nd) : Option (List It × Nat) := if checkM d nm ps ts pr l = 0 then resM F G d ps ts l else none
theorem resolve_any (x : Nat → Prop) (d : Nat) (nm : ByteArray) (pv tv : Value) (ps ts : List ByteArray) (pr : Int) (v fv gv : Value) (at_ : Int) (l : List Nd) (F G : List ByteArray) (w : World) (hd : d < 900) (hp : StrsX x w pv ps) (ht : StrsX x w tv ts) (h : NodesX x (d + 1) w v l) (hF : StrsX x w fv F) (hG : StrsX x w gv G) (hFn : F.length ≤ 1000) (hl : lenL (d + 1) l) :
    Calls Try.prog 4 #[.agg #[.string nm, pv, tv, .int .i64 pr, v, .int .i64 at_], fv, gv] w fun e w' => ResPost w d nm ps pr (resolveM F G d nm ps ts pr l) e w' := by
  by_cases hc : checkM d nm ps ts pr l = 0
  · unfold resolveM
    rw [if_pos hc]
    exact resolve_good x d nm pv tv ps ts pr v fv gv at_ l F G w hd hp ht h hF hG hFn hc (okL_check hc hl)
  · unfold resolveM
    rw [if_neg hc]
    refine (resolve_bad x d nm pv tv ps ts pr v fv gv at_ l w hd hp ht h hc).mono ?_
    rintro e w' ⟨rfl, hb⟩
    exact ⟨⟨at_, checkM d nm ps ts pr l, hc, rfl⟩, hb⟩
end Go.Proofs.Ytpfgidhchjcomaa
