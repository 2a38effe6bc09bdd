/- What a form can be; a part of a row of bytes; both gets of any bytes. -/
import Derived.Test.YtnajgpefmknmpaaDoorCodeG
namespace Go.Proofs.YtnajgpefmknmpaaDoor
open Go.RowKit
set_option linter.unusedVariables false
theorem fm_all (op : Int) : (fmOf op).a ≤ 2 ∧ (fmOf op).b ≤ 2 ∧ ((fmOf op).a = 0 → (fmOf op).sg = false) := by
  have hT : ∀ i : Fin 20, (fmT.getD i.val ⟨[], 0, false, 0⟩).a ≤ 2 ∧ (fmT.getD i.val ⟨[], 0, false, 0⟩).b ≤ 2 ∧ ((fmT.getD i.val ⟨[], 0, false, 0⟩).a = 0 → (fmT.getD i.val ⟨[], 0, false, 0⟩).sg = false) := by decide
  unfold fmOf
  split
  · rcases Nat.lt_or_ge op.toNat 20 with h | h
    · exact hT ⟨op.toNat, h⟩
    · rw [List.getD_eq_getElem?_getD, List.getElem?_eq_none (by show 20 ≤ _; omega)]
      decide
  · decide
/-- of an operation that is none the name is empty; the others' is not -/
theorem fm_name (op : Int) : ((fmOf op).name = []) ↔ ¬ (0 ≤ op ∧ op < 20) := by
  have hT : ∀ i : Fin 20, (fmT.getD i.val ⟨[], 0, false, 0⟩).name ≠ [] := by decide
  unfold fmOf
  split
  · rcases Nat.lt_or_ge op.toNat 20 with h | h
    · exact ⟨fun e => absurd e (hT ⟨op.toNat, h⟩), fun e => absurd ⟨by assumption, by omega⟩ e⟩
    · rw [List.getD_eq_getElem?_getD, List.getElem?_eq_none (by show 20 ≤ _; omega)]
      exact ⟨fun _ => by omega, fun _ => rfl⟩
  · exact ⟨fun _ => by omega, fun _ => rfl⟩
theorem sizeByte (W : World) : (sizeOf (Tryd.prog.elem 29)).run Tryd.prog W = .ok 1 W := by kernel_rfl
theorem BytesAt.part {w : World} {v : Value} {l : List UInt8} (h : BytesAt w v l) (i n : Nat) (hin : i + n ≤ l.length) :
    ∃ v', BytesAt w v' ((l.drop i).take n) ∧ ∀ W, (Instr.slice 29 v (some (.int .i64 (i : Int))) (some (.int .i64 ((i : Int) + n))) none).run Tryd.prog W = .ok v' W := by
  obtain ⟨a, cap, rfl, h1, h2, h3, h5⟩ := h
  have hlen : ((l.drop i).take n).length = n := by rw [List.length_take, List.length_drop]; omega
  refine ⟨sliced a i (i + n) cap 1, ⟨if cap = i then a else a.map (·.add (i * 1)), cap - i, ?_, ?_, ?_, ?_, ?_⟩, fun W => ?_⟩
  · unfold sliced; rw [hlen, show i + n - i = n by omega]
  · rw [hlen]; omega
  · omega
  · rcases Nat.eq_zero_or_pos n with h0 | h0
    · subst h0; left; simp [Lib.byteCells]
    · rcases h3 with h3 | ⟨b, o, rfl, hc⟩
      · have : (Lib.byteCells l).length = 0 := by rw [h3]; rfl
        rw [Lib.byteCells_length] at this; omega
      · right
        rw [if_neg (by omega)]
        refine ⟨b, o + i, by simp only [Option.map_some, Addr.add, Nat.mul_one]; split <;> simp_all, fun j hj => ?_⟩
        have hjn : j < n := by rw [Lib.byteCells_length, hlen] at hj; exact hj
        have := hc (i + j) (by rw [Lib.byteCells_length]; omega)
        rw [Nat.add_assoc, this]
        unfold Lib.byteCells
        rw [List.getElem?_map, List.getElem?_map, List.getElem?_take, if_pos hjn, List.getElem?_drop]
  · intro ha
    cases a with
    | none => have := h5 rfl; omega
    | some a => split at ha <;> simp at ha
  · have := run_slice_lh (P := Tryd.prog) (w := W) 29 a l.length cap (by kernel_rfl) .i64 .i64 (i : Int) ((i : Int) + n) (by omega) (by omega) (by omega)
    rw [this, sizeByte]
    simp only [Result.andThen, Int.toNat_natCast]
    rw [show ((i : Int) + n).toNat = i + n by omega]
theorem BytesAt.shape {w : World} {v : Value} {l : List UInt8} (h : BytesAt w v l) (h0 : l ≠ []) :
    ∃ b o cap, v = .slice (some ⟨b, o, none⟩) l.length cap ∧ l.length ≤ cap ∧ ∀ j, j < l.length → w.cell? ⟨b, o + j, none⟩ = (Lib.byteCells l)[j]? := by
  obtain ⟨a, cap, rfl, h1, h2, h3, h5⟩ := h
  rcases h3 with h3 | ⟨b, o, rfl, hc⟩
  · exact absurd (by simpa [Lib.byteCells] using h3) h0
  · exact ⟨b, o, cap, rfl, h1, fun j hj => hc j (by rw [Lib.byteCells_length]; exact hj)⟩
theorem cget_any (v : Value) (l : List UInt8) (sg : Bool) (w : World) (h : BytesAt w v l) (hl : l.length ≤ 2) (hs : l = [] → sg = false) :
    Calls Tryd.prog 22 #[v, .bool sg] w fun e w' => e = .returned (.int .i64 (getZ l sg)) ∧ w' = w := by
  match l, hl, hs, h with
  | [], _, hs, h =>
    obtain ⟨a, cap, rfl, -⟩ := h
    rw [hs rfl]
    exact get_nil a cap w
  | [c], _, hs, h =>
    obtain ⟨b, o, cap, rfl, h1, hc⟩ := h.shape (by simp)
    exact get_one b o cap c sg w (by simpa [Lib.byteCells] using hc 0 (by simp)) h1
  | [c, d], _, hs, h =>
    obtain ⟨b, o, cap, rfl, h1, hc⟩ := h.shape (by simp)
    exact get_two b o cap c d sg w (by simpa [Lib.byteCells] using hc 0 (by simp)) (by simpa [Lib.byteCells] using hc 1 (by simp)) h1
  | _ :: _ :: _ :: _, hl, _, _ => simp at hl
theorem rget_any (v : Value) (l : List UInt8) (sg : Bool) (w : World) (h : BytesAt w v l) (hl : l.length ≤ 2) (hs : l = [] → sg = false) :
    Calls Tryd.prog 24 #[v, .int .i64 (if sg then -(l.length : Int) else l.length)] w fun e w' => e = .returned (.int .i64 (getZ l sg)) ∧ w' = w := by
  match l, hl, hs, h with
  | [], _, hs, h =>
    obtain ⟨a, cap, rfl, -⟩ := h
    rw [hs rfl]
    exact rget_nil a cap w
  | [c], _, hs, h =>
    obtain ⟨b, o, cap, rfl, h1, hc⟩ := h.shape (by simp)
    cases sg
    · exact rget_one_u b o cap c w (by simpa [Lib.byteCells] using hc 0 (by simp)) h1
    · exact rget_one_s b o cap c w (by simpa [Lib.byteCells] using hc 0 (by simp)) h1
  | [c, d], _, hs, h =>
    obtain ⟨b, o, cap, rfl, h1, hc⟩ := h.shape (by simp)
    cases sg
    · exact rget_two_u b o cap c d w (by simpa [Lib.byteCells] using hc 0 (by simp)) (by simpa [Lib.byteCells] using hc 1 (by simp)) h1
    · exact rget_two_s b o cap c d w (by simpa [Lib.byteCells] using hc 0 (by simp)) (by simpa [Lib.byteCells] using hc 1 (by simp)) h1
  | _ :: _ :: _ :: _, hl, _, _ => simp at hl
end Go.Proofs.YtnajgpefmknmpaaDoor
