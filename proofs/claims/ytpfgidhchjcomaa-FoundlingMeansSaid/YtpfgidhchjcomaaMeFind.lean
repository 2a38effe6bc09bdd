/- The reader of names in memory; finding a name. -/
import Derived.Test.YtpfgidhchjcomaaMeField
import Derived.Laws.ResultCell
namespace Go.Proofs.Ytpfgidhchjcomaa
open Go.RowKit
set_option linter.unusedVariables false
/-- a name's slot -/
structure Kn where
  name : ByteArray
  slot : Nat
  set : Bool
def knC1 (k : Kn) : List Value := [.string k.name, .int .i64 (k.slot : Int), .bool k.set]
def knC (l : List Kn) : List Value := l.flatMap knC1
theorem knC_length : ∀ l : List Kn, (knC l).length = l.length * 3
  | [] => rfl
  | x :: l => by unfold knC; rw [List.flatMap_cons, List.length_append]; have := knC_length l; unfold knC at this; rw [this, List.length_cons]; show 3 + _ = _; omega
theorem knC_at : ∀ (l : List Kn) (k : Nat) (h : k < l.length), (knC l)[k * 3]? = some (.string (l[k]).name) ∧ (knC l)[k * 3 + 1]? = some (.int .i64 ((l[k]).slot : Int)) ∧ (knC l)[k * 3 + 2]? = some (.bool (l[k]).set)
  | x :: l, 0, _ => ⟨rfl, rfl, rfl⟩
  | x :: l, k + 1, h => by
    have hk : k < l.length := by simpa using h
    obtain ⟨h0, h1, h2⟩ := knC_at l k hk
    have e : knC (x :: l) = knC1 x ++ knC l := rfl
    have hl : (knC1 x).length = 3 := rfl
    rw [e]
    refine ⟨?_, ?_, ?_⟩
    · rw [List.getElem?_append_right (by omega), hl, show (k + 1) * 3 - 3 = k * 3 by omega]; simpa using h0
    · rw [List.getElem?_append_right (by omega), hl, show (k + 1) * 3 + 1 - 3 = k * 3 + 1 by omega]; simpa using h1
    · rw [List.getElem?_append_right (by omega), hl, show (k + 1) * 3 + 2 - 3 = k * 3 + 2 by omega]; simpa using h2
/-- what is known, in memory -/
def KnAt (w : World) (v : Value) (kn : List Kn) : Prop := ∃ B, w.ownsRow B 91 3 v kn.length (knC kn)
theorem KnAt.shape {w : World} {v : Value} {kn : List Kn} (h : KnAt w v kn) : ∃ a cap, v = .slice a kn.length cap ∧ kn.length ≤ cap ∧ cap ≤ maxLen := by
  obtain ⟨B, h⟩ := h
  rcases h.2 with ⟨rfl, h0⟩ | ⟨g, cap, cur, rfl, -, -, h1, h2, -⟩
  · exact ⟨none, 0, by rw [h0], by omega, by unfold maxLen; omega⟩
  · exact ⟨_, cap, rfl, h1, h2⟩
theorem KnAt.later {w w' : World} {v : Value} {kn : List Kn} (h : KnAt w v kn) (hb : Below w.heap.size w w') : KnAt w' v kn := by
  obtain ⟨B, h⟩ := h
  exact ⟨B, own_grown h fun g hg => hb.block g (h.lt g hg).2⟩
theorem KnAt.at {w : World} {a : Option Addr} {n cap : Nat} {kn : List Kn} (h : KnAt w (.slice a n cap) kn) (i : Nat) (hi : i < kn.length) : ∃ g, a = some ⟨g, 0, none⟩ ∧ w.cell? ⟨g, i * 3, none⟩ = some (.string (kn[i]).name) ∧ w.cell? ⟨g, i * 3 + 1, none⟩ = some (.int .i64 ((kn[i]).slot : Int)) ∧ w.cell? ⟨g, i * 3 + 2, none⟩ = some (.bool (kn[i]).set) := by
  obtain ⟨B, h⟩ := h
  rcases h.2 with ⟨hv, h0⟩ | ⟨g, c, cur, hv, -, hg, h1, -, -, ht⟩
  · omega
  · injection hv with e1 e2 e3
    subst e1
    obtain ⟨k0, k1, k2⟩ := knC_at kn i hi
    rw [← ht] at k0 k1 k2
    rw [List.getElem?_take, if_pos (by omega)] at k0 k1 k2
    refine ⟨g, rfl, ?_, ?_, ?_⟩
    · rw [cell_of_row w g _ _ _ _ hg]; simpa using k0
    · rw [cell_of_row w g _ _ _ _ hg]; simpa using k1
    · rw [cell_of_row w g _ _ _ _ hg]; simpa using k2
def sameS (a b : ByteArray) : Bool := a.toList == b.toList
def findM (kn : List Kn) (s : ByteArray) : Option Kn := kn.find? fun k => sameS k.name s
def knV : Option Kn → Value
  | some k => .agg #[.string k.name, .int .i64 (k.slot : Int), .bool k.set]
  | none => .agg #[.string ⟨#[]⟩, .int .i64 0, .bool false]
set_option maxRecDepth 100000 in
theorem find1_any (q : Nat) (nm s : ByteArray) (sl : Int) (b : Bool) (w : World) (hq : w.cell? ⟨q, 0, none⟩ = some (.string s)) :
    Calls Try.prog 69 #[.agg #[.string nm, .int .i64 sl, .bool b], .pointer (some ⟨q, 0, none⟩)] w fun e w' => e = .returned (.bool (sameS nm s)) ∧ Below w.heap.size w w' := by
  have hlt := lt_of_cell hq
  have HS := Lib.hid (show sameS nm s = (nm.toList == s.toList) from rfl)
  rw [HS.out]
  go_enter Try.func69, Try.ntmps69
  go_wp2_with fail
  go_ret
  exact ⟨rfl, (Below.refl _ _).alloc (Nat.le_refl _) _⟩
theorem find_hit {kn : List Kn} {s : ByteArray} {i : Nat} (hi : i < kn.length) (h0 : ∀ j y, j < i → kn[j]? = some y → sameS y.name s = false) (h1 : sameS (kn[i]).name s = true) : findM kn s = some kn[i] := by
  unfold findM
  rw [List.find?_eq_some_iff_getElem]
  refine ⟨h1, i, hi, rfl, fun j hj => ?_⟩
  rw [h0 j _ hj (List.getElem?_eq_getElem (by omega))]
  rfl
theorem find_miss {kn : List Kn} {s : ByteArray} (h0 : ∀ j y, j < kn.length → kn[j]? = some y → sameS y.name s = false) : findM kn s = none := by
  unfold findM
  rw [List.find?_eq_none]
  intro y hy
  obtain ⟨j, hj, rfl⟩ := List.getElem_of_mem hy
  rw [h0 j _ hj (List.getElem?_eq_getElem hj)]
  simp
set_option maxRecDepth 100000 in
set_option maxHeartbeats 4000000 in
theorem indexK_any (q : Nat) (v : Value) (kn : List Kn) (s : ByteArray) (w : World) (hq : w.cell? ⟨q, 0, none⟩ = some (.string s)) (h : KnAt w v kn) :
    Calls Try.prog 68 #[v, .func (.func 69) #[] #[.pointer (some ⟨q, 0, none⟩)]] w fun e w' => (∃ r : Int, e = .returned (.int .i64 r) ∧ ((r = -1 ∧ findM kn s = none) ∨ ∃ i : Nat, ∃ hi : i < kn.length, r = (i : Int) ∧ findM kn s = some kn[i])) ∧ Below w.heap.size w w' := by
  obtain ⟨a, cap, rfl, h1, h2⟩ := h.shape
  have HK := Lib.hid h
  have HQ := Lib.hid hq
  have hlt := lt_of_cell hq
  have hn : kn.length ≤ 9223372036854775807 := Nat.le_trans h1 h2
  clear h hq
  go_enter Try.func68, Try.ntmps68
  go_wp2_with fail
  go_loopg [5, 8] kn.length (fun gg s5 s8 wr => ∃ i : Nat, gg = kn.length - i ∧ i ≤ kn.length ∧ s8 = .int .i64 (i : Int) ∧ (∀ j y, j < i → kn[j]? = some y → sameS y.name s = false) ∧ Below w.heap.size w wr)
  case atStart => exact ⟨0, rfl, by omega, rfl, fun j y h => absurd h (Nat.not_lt_zero _), Below.refl _ _⟩
  case round =>
    obtain ⟨i, hg, hi, rfl, hno, hb⟩ := hrel
    have HGG := Lib.hid hg
    have HN := Lib.hid hno
    have HB := Lib.hid hb
    have HKI := Lib.hid (HK.out.later hb)
    have HQI := Lib.hid (show wr.cell? ⟨q, 0, none⟩ = some (.string s) from (hb.cell (p := ⟨q, 0, none⟩) hlt).trans HQ.out)
    clear hg hno hb
    by_cases hlt' : i < kn.length
    · have hl := List.getElem?_eq_getElem hlt'
      obtain ⟨g, rfl, c0, c1, c2⟩ := HKI.out.at i hlt'
      have PX := Lib.hid (find1_any q (kn[i]).name s ((kn[i]).slot : Int) (kn[i]).set wr HQI.out)
      cases hx : sameS (kn[i]).name s with
      | true =>
        rw [hx] at PX
        have HA := Lib.hid (find_hit hlt' HN.out hx)
        have HI := Lib.hid (show ∃ i' : Nat, ∃ hi' : i' < kn.length, (i : Int) = (i' : Int) ∧ findM kn s = some kn[i'] from ⟨i, hlt', rfl, HA.out⟩)
        clear hx hl HA
        generalize kn[i] = y at *
        go_wp2_with fail
        refine PX.out.mono ?_
        rintro e w1 ⟨rfl, h5⟩
        have H5 := Lib.hid (HB.out.trans (h5.mono HB.out.size))
        clear h5
        go_wp2_with fail
        go_ret
        exact ⟨⟨i, rfl, Or.inr HI.out⟩, H5.out⟩
      | false =>
        rw [hx] at PX
        have HM := Lib.hid (show ∀ j y, j < i + 1 → kn[j]? = some y → sameS y.name s = false from fun j y hj hy => by
          by_cases hji : j = i
          · subst hji
            rw [hl] at hy; injection hy with hy; subst hy; exact hx
          · exact HN.out j y (by omega) hy)
        clear hx hl
        generalize kn[i] = y at *
        go_wp2_with fail
        refine PX.out.mono ?_
        rintro e w1 ⟨rfl, h5⟩
        have H5 := Lib.hid (HB.out.trans (h5.mono HB.out.size))
        clear h5
        go_wp2_with fail
        go_roundg (kn.length - (i + 1))
        case measure => rw [HGG.out]; omega
        case rel => exact ⟨i + 1, rfl, by omega, by go_num, HM.out, H5.out⟩
    · have : i = kn.length := by omega
      have HA := Lib.hid (show findM kn s = none from find_miss (by rw [← this]; exact HN.out))
      go_wp2_with fail
      go_ret
      exact ⟨⟨-1, rfl, Or.inl ⟨rfl, HA.out⟩⟩, HB.out⟩
theorem results_row_tmp {P : Program} {fn : Func} {p u : Tmp} {ty : TypeId} (h : fn.results = #[.cell p ty, .tmp u]) (tmps : Array Value) (w : World) (g : Nat) (t : TypeId) (cs : Array Value) (fr : Nat × Nat) (d : TypeDesc) (y : Value)
    (hp : tmps.getD p undef = .pointer (some ⟨g, 0, none⟩)) (hy : tmps.getD u undef = y) (hg : w.heap[g]? = some (.cells cs t fr))
    (hu : P.underlying ty = some d) (hd : (match d with | .struct _ | .array _ _ => true | _ => false) = true) (hi : (P.info? ty).map (·.size) = some cs.size) :
    (results fn tmps).run P w = .ok (.tuple #[.agg cs, y]) w := by
  rw [results_cell_tmp h, hp, hy]
  simp [asAddr, Result.andThen, run_loadVar_row w g t ty cs fr d hg hu hd hi]
theorem heap_set3 {w : World} {g : Nat} {c0 c1 c2 : Value} {t : TypeId} {fr : Nat × Nat} (h : w.heap[g]? = some (.cells #[c0, c1, c2] t fr)) (v0 v1 v2 : Value) : (((w.setCell ⟨g, 0, none⟩ v0).setCell ⟨g, 1, none⟩ v1).setCell ⟨g, 2, none⟩ v2).heap[g]? = some (.cells #[v0, v1, v2] t fr) := heap_set (heap_set (heap_set h v0) v1) v2
set_option maxRecDepth 100000 in
set_option maxHeartbeats 4000000 in
theorem find_any (p : Nat) (v : Value) (kn : List Kn) (s : ByteArray) (w : World) (hp : w.cell? ⟨p, 0, none⟩ = some v) (h : KnAt w v kn) :
    Calls Try.prog 43 #[.pointer (some ⟨p, 0, none⟩), .string s] w fun e w' => e = .returned (.tuple #[knV (findM kn s), .bool (findM kn s).isSome]) ∧ Below w.heap.size w w' := by
  obtain ⟨a, cap, rfl, h1, h2⟩ := h.shape
  have hlp := lt_of_cell hp
  have hb0 : Below w.heap.size w ((w.alloc (.cells #[.string s] 9)).alloc (.cells #[.string ⟨#[]⟩, .int .i64 0, .bool false] 91)) := ((Below.refl _ _).alloc (Nat.le_refl _) _).alloc (by simp) _
  have IX := Lib.hid (fun W (hW : Below w.heap.size w W) hq => indexK_any w.heap.size (.slice a kn.length cap) kn s W hq (h.later hW))
  have HK := Lib.hid h
  have hmf : ∀ (fn : Fn) (first cap : Array Value) (w : World), (Instr.makeFunc fn first cap).run Try.prog w = .ok (.func fn first cap) w := fun _ _ _ _ => rfl
  clear h hb0
  go_enter Try.func43, Try.ntmps43
  go_wp2_with fail
  refine (IX.out _ (((Below.refl _ _).alloc (Nat.le_refl _) _).alloc (by simp) _) (by simp)).mono ?_
  rintro e w1 ⟨⟨r, rfl, hr⟩, hb⟩
  have hz2 : w1.heap[w.heap.size + 1]? = some (.cells #[.string ⟨#[]⟩, .int .i64 0, .bool false] 91 (0, 0)) := (hb.block (w.heap.size + 1) (by simp)).trans (heap_alloc2_new w _ _)
  have y0 := cell_of_row w1 _ 0 _ _ _ hz2
  have y1 := cell_of_row w1 _ 1 _ _ _ hz2
  have y2 := cell_of_row w1 _ 2 _ _ _ hz2
  have yf : ∀ j, w1.frozen? ⟨w.heap.size + 1, j, none⟩ = false := (by intro j; unfold World.frozen?; rw [hz2]; simp)
  simp at y0 y1 y2
  have HZ := Lib.hid hz2
  have HB := Lib.hid (show Below w.heap.size w w1 from (((Below.refl _ _).alloc (Nat.le_refl _) _).alloc (by simp) _).trans (hb.mono (by simp; omega)))
  have hp1 : w1.cell? ⟨p, 0, none⟩ = some (.slice a kn.length cap) := (HB.out.cell (p := ⟨p, 0, none⟩) hlp).trans hp
  clear hb hz2
  rcases hr with ⟨rfl, hf⟩ | ⟨i, hi, rfl, hf⟩
  · have HF := Lib.hid hf
    clear hf
    go_wp2_with fail
    refine bodyPost_ret (v := .tuple #[knV none, .bool false]) (results_row_tmp Try.results43 _ _ (w.heap.size + 1) 91 #[.string ⟨#[]⟩, .int .i64 0, .bool false] (0, 0) _ (.bool false) rfl rfl (heap_set3 HZ.out _ _ _) Try.underlying91 rfl (by kernel_rfl)) rfl ⟨by rw [HF.out]; rfl, ?_⟩
    repeat (first | with_reducible exact Below.refl _ _ | ((with_reducible refine Below.setCell ?_ ?_ _); rotate_left; focus (first | (simp; done) | (simp; omega) | omega)) | ((with_reducible refine Below.alloc ?_ ?_ _); rotate_left; focus (first | (simp; done) | (simp; omega) | omega)) | (with_reducible refine Below.drew ?_) | ((with_reducible refine Below.trans ?_ (Below.mono HB.out ?_)); rotate_left; focus (first | (simp; done) | (simp; omega) | omega)))
  · have HF := Lib.hid hf
    clear hf
    obtain ⟨g, rfl, c0, c1, c2⟩ := (HK.out.later HB.out).at i hi
    generalize kn[i] = y at *
    have i1 : (0 : Int) ≤ (i : Int) := by omega
    have i2 : (i : Int) < (kn.length : Int) := by omega
    go_wp2_with fail
    refine bodyPost_ret (v := .tuple #[knV (some y), .bool true]) (results_row_tmp Try.results43 _ _ (w.heap.size + 1) 91 #[.string y.name, .int .i64 (y.slot : Int), .bool y.set] (0, 0) _ (.bool true) rfl rfl (heap_set3 HZ.out _ _ _) Try.underlying91 rfl (by kernel_rfl)) rfl ⟨by rw [HF.out]; rfl, ?_⟩
    repeat (first | with_reducible exact Below.refl _ _ | ((with_reducible refine Below.setCell ?_ ?_ _); rotate_left; focus (first | (simp; done) | (simp; omega) | omega)) | ((with_reducible refine Below.alloc ?_ ?_ _); rotate_left; focus (first | (simp; done) | (simp; omega) | omega)) | (with_reducible refine Below.drew ?_) | ((with_reducible refine Below.trans ?_ (Below.mono HB.out ?_)); rotate_left; focus (first | (simp; done) | (simp; omega) | omega)))
end Go.Proofs.Ytpfgidhchjcomaa
