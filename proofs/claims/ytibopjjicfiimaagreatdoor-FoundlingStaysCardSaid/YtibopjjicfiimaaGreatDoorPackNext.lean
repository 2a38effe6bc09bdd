/- Sets of bits: a number's place; it is set. Sets of bits: how many there may be; the next one. -/
import Derived.Test.YtibopjjicfiimaaGreatDoorPackBits
import Derived.Test.YtibopjjicfiimaaGreatDoorPackPlain
namespace Go.Proofs.YtibopjjicfiimaaGreatDoor
open Go.RowKit
theorem and63 (k : Nat) (h : k < 4611686018427387904) : bits BinOp.and IntKind.i64 (k : Int) 63 = ((k % 64 : Nat) : Int) := by
  show IntKind.i64.wrap ((BitVec.ofInt 64 (k : Int) &&& BitVec.ofInt 64 ((63 : Nat) : Int)).toNat : Int) = _
  rw [BitVec.toNat_and, ofInt_u64 k (by omega), ofInt_u64 63 (by omega), show k &&& 63 = k % 64 from Nat.and_two_pow_sub_one_eq_mod k 6]
  have hw : ∀ x : Int, IntKind.i64.wrap x = (x + 9223372036854775808) % 18446744073709551616 - 9223372036854775808 := fun x => by simp [IntKind.wrap, IntKind.bits, IntKind.signed]; try omega
  rw [hw]
  omega
set_option maxRecDepth 100000 in
theorem place_yes (b n k : Nat) (hk : k < n) (hn : n ≤ 16777216) (w : World) (hc : w.cell? ⟨b, 0, none⟩ = some (.int .i64 (n : Int))) :
    Calls Tryz.prog 99 #[.pointer (some ⟨b, 0, none⟩), .int .i64 (k : Int)] w fun e w' => e = .returned (.tuple #[.int .i64 ((k / 64 : Nat) : Int), .int .u64 ((2 ^ (k % 64) : Nat) : Int), .bool true]) ∧ Below w.heap.size w w' ∧ w'.heap = w.heap := by
  have a1 := and63 k (by omega)
  have hp : 2 ^ (k % 64) < 18446744073709551616 := Nat.lt_of_lt_of_le (Nat.pow_lt_pow_right (by omega) (show k % 64 < 64 by omega)) (by decide)
  have a2 : IntKind.u64.wrap (2 ^ (k % 64)) = ((2 ^ (k % 64) : Nat) : Int) := by
    rw [show (2 : Int) ^ (k % 64) = ((2 ^ (k % 64) : Nat) : Int) by simp]
    generalize 2 ^ (k % 64) = p at hp ⊢
    rw [IntKind.wrap_u64]
    omega
  clear hp
  go_enter Tryz.func99, Tryz.ntmps99
  go_wp2_with fail
  go_region
  go_wp2_with fail
  refine bodyPost_ret (v := .tuple #[.int .i64 ((k / 64 : Nat) : Int), .int .u64 ((2 ^ (k % 64) : Nat) : Int), .bool true]) (by simp [results, Tryz.results99, go_sem, a2]) rfl ⟨rfl, ?_, rfl⟩
  repeat (first | with_reducible exact Below.refl _ _ | ((with_reducible refine Below.setCell ?_ ?_ _); rotate_left; focus (first | (simp; done) | (simp; omega) | omega)) | ((with_reducible refine Below.alloc ?_ ?_ _); rotate_left; focus (first | (simp; done) | (simp; omega) | omega)) | (with_reducible refine Below.drew ?_))
set_option maxRecDepth 100000 in
theorem place_no (b n : Nat) (i : Int) (hi : i < 0 ∨ (n : Int) ≤ i) (w : World) (hc : w.cell? ⟨b, 0, none⟩ = some (.int .i64 (n : Int))) :
    Calls Tryz.prog 99 #[.pointer (some ⟨b, 0, none⟩), .int .i64 i] w fun e w' => e = .returned (.tuple #[.int .i64 0, .int .u64 0, .bool false]) ∧ w' = w := by
  go_enter Tryz.func99, Tryz.ntmps99
  go_wp2_with fail
  all_goals exact bodyPost_ret (v := .tuple #[.int .i64 0, .int .u64 0, .bool false]) (by simp [results, Tryz.results99, go_sem]) rfl ⟨rfl, rfl⟩
theorem BitsAt.of_heap {w w' : World} {B b n : Nat} {S : Nat → Bool} (h : BitsAt w B b n S) (e : w'.heap = w.heap) : BitsAt w' B b n S := by
  obtain ⟨g, cap, m, ws, f, h1, h2, h3, h4, h5, h6, h7, h8, h9⟩ := h
  exact ⟨g, cap, m, ws, f, h1, h2, h3, h4, by rw [e]; exact h5, h6, h7, h8.of_block (by rw [e]), h9⟩
theorem bits_turn {w : World} {B b n g cap m : Nat} {S : Nat → Bool} {ws : Nat → Nat} {f : Nat → Value} (h1 : B ≤ b) (h2 : B ≤ g) (h3 : b ≠ g) (h4 : n ≤ 16777216)
    (h5 : w.heap[b]? = some (.cells #[.int .i64 (n : Int), .slice (some ⟨g, 0, none⟩) ((n + 63) / 64) cap] 138 (0, 0))) (h6 : (n + 63) / 64 ≤ cap) (h7 : cap ≤ maxLen) (h8 : w.rowIs g 30 m f) (h9 : (n + 63) / 64 ≤ m)
    (h10 : ∀ i, i < (n + 63) / 64 → f i = .int .u64 (ws i : Int) ∧ ws i < 18446744073709551616 ∧ ∀ j, j < 64 → (ws i).testBit j = S (64 * i + j)) (h11 : ∀ k, n ≤ k → S k = false) (k : Nat) (hk : k < n) :
    BitsAt (w.setCell ⟨g, k / 64, none⟩ (.int .u64 ((ws (k / 64) ^^^ 2 ^ (k % 64) : Nat) : Int))) B b n (fun j => if j = k then !S k else S j) := by
  refine ⟨g, cap, m, fun i => if i = k / 64 then ws (k / 64) ^^^ 2 ^ (k % 64) else ws i, _, h1, h2, h3, h4, ?_, h6, h7, h8.set (k / 64) _, h9, fun i hi => ?_, fun j hj => ?_⟩
  · rw [← h5]; exact Go.Deep.blk_setCell_other _ _ _ _ h3
  · obtain ⟨e1, e2, e3⟩ := h10 i hi
    by_cases he : i = k / 64
    · subst he
      simp only [↓reduceIte]
      refine ⟨trivial, xor_lt _ _ e2 (by omega), fun j hj => ?_⟩
      rw [xor_bit, e3 j hj]
      by_cases hkj : k % 64 = j
      · subst hkj
        rw [if_pos (by omega), Nat.div_add_mod]
        simp
      · rw [if_neg (by omega)]
        simp [hkj]
    · simp only [if_neg he]
      refine ⟨e1, e2, fun j hj => ?_⟩
      rw [if_neg (by omega)]
      exact e3 j hj
  · have : j ≠ k := by omega
    simp only [if_neg this]
    exact h11 j hj
def setB (n : Nat) (S : Nat → Bool) (i : Int) (on : Bool) : Bool := decide (0 ≤ i ∧ i < n) && (S i.toNat != on)
def setS (n : Nat) (S : Nat → Bool) (i : Int) (on : Bool) : Nat → Bool := fun j => if 0 ≤ i ∧ i < n ∧ j = i.toNat then on else S j
theorem setS_out {n : Nat} {S : Nat → Bool} {i : Int} {on : Bool} (h : ¬ (0 ≤ i ∧ i < n)) : setS n S i on = S := by
  funext j; unfold setS; rw [if_neg (fun h' => h ⟨h'.1, h'.2.1⟩)]
theorem setS_same {n : Nat} {S : Nat → Bool} {i : Int} {on : Bool} (h : S i.toNat = on) : setS n S i on = S := by
  funext j; unfold setS; split
  · rename_i h'; rw [h'.2.2, h]
  · rfl
/-- blocks of other elements than these are as they were -/
def KeepsBut (T0 : TypeId) (w w' : World) : Prop := ∀ (q : Nat) (c : Array Value) (T : TypeId) (fr : Nat × Nat), w.heap[q]? = some (Obj.cells c T fr) → T ≠ T0 → w'.heap[q]? = w.heap[q]?
theorem KeepsBut.refl (T0 : TypeId) (w : World) : KeepsBut T0 w w := fun _ _ _ _ _ _ => rfl
theorem KeepsBut.of_heap {T0 : TypeId} {w w' : World} (h : w'.heap = w.heap) : KeepsBut T0 w w' := fun _ _ _ _ _ _ => by rw [h]
theorem KeepsBut.setCell {T0 : TypeId} {w w' : World} {a : Addr} {u : Value} (h : KeepsBut T0 w w') (ha : ∃ c fr, w'.heap[a.block]? = some (.cells c T0 fr)) : KeepsBut T0 w (w'.setCell a u) := by
  intro q c T fr hq hT
  have h1 := h q c T fr hq hT
  rw [Go.Deep.blk_setCell_other _ _ _ _ ?_, h1]
  intro e
  subst e
  obtain ⟨c', fr', ha⟩ := ha
  rw [h1, hq] at ha
  simp at ha
  exact hT ha.2.1
theorem KeepsBut.alloc (T0 : TypeId) (w : World) (o : Obj) : KeepsBut T0 w (w.alloc o) := by
  intro q c T fr hq hT
  exact Go.Deep.blk_alloc_lt _ _ _ (Array.getElem?_eq_some_iff.1 hq).1
theorem KeepsBut.trans {T0 : TypeId} {w w' w2 : World} (h : KeepsBut T0 w w') (h' : KeepsBut T0 w' w2) : KeepsBut T0 w w2 := by
  intro q c T fr hq hT
  have h1 := h q c T fr hq hT
  rw [h' q c T fr (by rw [h1]; exact hq) hT, h1]
theorem KeepsBut.below {T0 : TypeId} {w w' : World} (h : Below w.heap.size w w') : KeepsBut T0 w w' := by
  intro q c T fr hq hT
  exact h.block q (Array.getElem?_eq_some_iff.1 hq).1
theorem KeepsBut.row {T0 T : TypeId} {w w' : World} {g m : Nat} {f : Nat → Value} (h : KeepsBut T0 w w') (hr : w.rowIs g T m f) (hT : T ≠ T0) : w'.rowIs g T m f := by
  obtain ⟨c, hc, h1⟩ := hr
  exact ⟨c, by rw [h g c T _ hc hT]; exact hc, h1⟩
set_option maxRecDepth 100000 in
theorem set_only (B b n : Nat) (S : Nat → Bool) (i : Int) (on : Bool) (w : World) (h : BitsAt w B b n S) (hB : B ≤ w.heap.size) :
    Calls Tryz.prog 90 #[.pointer (some ⟨b, 0, none⟩), .int .i64 i, .bool on] w fun e w' => e = .returned (.bool (setB n S i on)) ∧ BitsAt w' B b n (setS n S i on) ∧ Below B w w' ∧ KeepsBut 30 w w' ∧ ∀ q, (∀ r m c, w.cell? ⟨b, 1, none⟩ = some (.slice (some ⟨r, 0, none⟩) m c) → q ≠ r) → w'.heap[q]? = w.heap[q]? := by
  have H := Lib.hid h
  obtain ⟨g, cap, m, ws, f, h1, h2, h3, h4, h5, h6, h7, h8, h9, h10, h11⟩ := h
  have hc0 : w.cell? ⟨b, 0, none⟩ = some (.int .i64 (n : Int)) := by simp [World.cell?, h5]
  by_cases hin : 0 ≤ i ∧ i < n
  · obtain ⟨k, rfl⟩ := Int.eq_ofNat_of_zero_le hin.1
    have hk : k < n := by omega
    have hc1 : w.cell? ⟨b, 1, none⟩ = some (.slice (some ⟨g, 0, none⟩) ((n + 63) / 64) cap) := by simp [World.cell?, h5]
    have hq : k / 64 < (n + 63) / 64 := by omega
    obtain ⟨e1, e2, e3⟩ := h10 (k / 64) hq
    have hcw : w.cell? ⟨g, k / 64, none⟩ = some (.int .u64 (ws (k / 64) : Int)) := by rw [h8.cell (by omega), e1]
    have hfw : w.frozen? ⟨g, k / 64, none⟩ = false := h8.frozen _
    have hbt : (ws (k / 64)).testBit (k % 64) = S k := by rw [e3 (k % 64) (by omega), Nat.div_add_mod]
    have hp : 2 ^ (k % 64) < 18446744073709551616 := Nat.lt_of_lt_of_le (Nat.pow_lt_pow_right (by omega) (show k % 64 < 64 by omega)) (by decide)
    have a1 := u64_and_nat (ws (k / 64)) (2 ^ (k % 64)) e2 hp
    have a2 := u64_xor_nat (ws (k / 64)) (2 ^ (k % 64)) e2 hp
    have a3 : (((ws (k / 64) &&& 2 ^ (k % 64) : Nat) : Int) != 0) = S k := by
      rw [← hbt, ← and_bit]
      generalize ws (k / 64) &&& 2 ^ (k % 64) = z
      cases z with
      | zero => rfl
      | succ z => simp; omega
    have HC1 := Lib.hid hc1
    have HT8 := Lib.hid (show ∃ c fr, w.heap[g]? = some (.cells c 30 fr) from by obtain ⟨c, hc, -⟩ := h8; exact ⟨c, _, hc⟩)
    have P := Lib.hid (place_yes b n k hk h4 w hc0)
    have T := Lib.hid (fun (w1 : World) (hh : w1.heap = w.heap) => bits_turn (w := w1) h1 h2 h3 h4 (by rw [hh]; exact h5) h6 h7 (h8.of_block (by rw [hh])) h9 h10 h11 k hk)
    clear hbt e1 e3 h5 h8 h10 h11
    generalize 2 ^ (k % 64) = bit at *
    generalize ws (k / 64) = W at *
    go_enter Tryz.func90, Tryz.ntmps90
    go_wp2_with fail
    refine P.out.mono ?_
    rintro e w1 ⟨rfl, hg1, hh⟩
    have hx : ∀ p, w1.cell? p = w.cell? p := fun p => by simp [World.cell?, hh]
    have hy : ∀ p, w1.frozen? p = w.frozen? p := fun p => by simp [World.frozen?, hh]
    have hc0' := (hx ⟨b, 0, none⟩).trans hc0
    have hc1' := (hx ⟨b, 1, none⟩).trans hc1
    have hcw' := (hx ⟨g, k / 64, none⟩).trans hcw
    have hfw' := (hy ⟨g, k / 64, none⟩).trans hfw
    clear hx hy hc0 hc1 hcw hfw
    have HG := Lib.hid (hg1.mono hB)
    clear hg1
    go_wp2_with fail
    · rename_i he
      have he' := eq_of_beq he
      go_ret
      refine ⟨ret_bool ?_, ?_, HG.out, KeepsBut.of_heap hh, fun q _ => by rw [hh]⟩
      · unfold setB; rw [Int.toNat_natCast, he']; simp
      · rw [setS_same (by rw [Int.toNat_natCast, he'])]
        exact H.out.of_heap hh
    · rename_i he
      have he' : S k = !on := by cases hs : S k <;> cases on <;> simp [hs] at he ⊢
      go_ret
      refine ⟨ret_bool ?_, ?_, ?_, (KeepsBut.of_heap hh).setCell ?_, fun q hq => by rw [Below.heap_setCell _ _ _ _ (hq g _ _ HC1.out), hh]⟩
      · unfold setB; rw [Int.toNat_natCast, he']; simp [hk]
      · have ht := T.out w1 hh
        rw [show setS n S k on = fun j => if j = k then !S k else S j from ?_]
        · exact ht
        · funext j; unfold setS; rw [he', Int.toNat_natCast, Bool.not_not]
          by_cases hj : j = k
          · rw [if_pos ⟨by omega, by omega, hj⟩, if_pos hj]
          · rw [if_neg (fun h => hj h.2.2), if_neg hj]
      · exact HG.out.trans (Below.setCell (Below.refl _ _) h2 _)
      · rw [hh]; exact HT8.out
  · have P := Lib.hid (place_no b n i (by omega) w hc0)
    clear h5 h8 h10 h11
    go_enter Tryz.func90, Tryz.ntmps90
    go_wp2_with fail
    refine P.out.mono ?_
    rintro e w1 ⟨rfl, rfl⟩
    go_wp2_with fail
    go_ret
    refine ⟨ret_bool ?_, ?_, Below.refl _ _, KeepsBut.refl _ _, fun _ _ => rfl⟩
    · unfold setB; rw [decide_eq_false hin]; rfl
    · rw [setS_out hin]; exact H.out
theorem set_keep (B b n : Nat) (S : Nat → Bool) (i : Int) (on : Bool) (w : World) (h : BitsAt w B b n S) (hB : B ≤ w.heap.size) :
    Calls Tryz.prog 90 #[.pointer (some ⟨b, 0, none⟩), .int .i64 i, .bool on] w fun e w' => e = .returned (.bool (setB n S i on)) ∧ BitsAt w' B b n (setS n S i on) ∧ Below B w w' ∧ KeepsBut 30 w w' :=
  (set_only B b n S i on w h hB).mono fun _ _ h => ⟨h.1, h.2.1, h.2.2.1, h.2.2.2.1⟩
theorem set_any (B b n : Nat) (S : Nat → Bool) (i : Int) (on : Bool) (w : World) (h : BitsAt w B b n S) (hB : B ≤ w.heap.size) :
    Calls Tryz.prog 90 #[.pointer (some ⟨b, 0, none⟩), .int .i64 i, .bool on] w fun e w' => e = .returned (.bool (setB n S i on)) ∧ BitsAt w' B b n (setS n S i on) ∧ Below B w w' :=
  (set_keep B b n S i on w h hB).mono fun _ _ h => ⟨h.1, h.2.1, h.2.2.1⟩
end Go.Proofs.YtibopjjicfiimaaGreatDoor
namespace Go.Proofs.YtibopjjicfiimaaGreatDoor
open Go.RowKit
theorem BitsAt.later {w w' : World} {B b n : Nat} {S : Nat → Bool} (h : BitsAt w B b n S) (hb : Below w.heap.size w w') : BitsAt w' B b n S := by
  obtain ⟨g, cap, m, ws, f, h1, h2, h3, h4, h5, h6, h7, h8, h9⟩ := h
  have hl : b < w.heap.size := (Array.getElem?_eq_some_iff.1 h5).1
  exact ⟨g, cap, m, ws, f, h1, h2, h3, h4, by rw [hb.block b hl]; exact h5, h6, h7, h8.of_block (hb.block g h8.lt), h9⟩
theorem BitsAt.mono {w : World} {B C b n : Nat} {S : Nat → Bool} (h : BitsAt w B b n S) (hc : C ≤ B) : BitsAt w C b n S := by
  obtain ⟨g, cap, m, ws, f, h1, h2, h3⟩ := h
  exact ⟨g, cap, m, ws, f, by omega, by omega, h3⟩
set_option maxRecDepth 100000 in
theorem next_any (B b n : Nat) (S : Nat → Bool) (i : Int) (w : World) (h : BitsAt w B b n S) (hT : TabAt 0 Lib.deBruijn64tab w) :
    Calls Tryz.prog 32 #[.pointer (some ⟨b, 0, none⟩), .int .i64 i] w fun e w' => ∃ r, e = .returned (.int .i64 r) ∧ IsNext n S i r ∧ w' = w := by
  obtain ⟨g, cap, m, ws, f, h1, h2, h3, h4, h5, h6, h7, h8, h9, h10, h11⟩ := h
  have hc0 : w.cell? ⟨b, 0, none⟩ = some (.int .i64 (n : Int)) := by simp [World.cell?, h5]
  have hc1 : w.cell? ⟨b, 1, none⟩ = some (.slice (some ⟨g, 0, none⟩) ((n + 63) / 64) cap) := by simp [World.cell?, h5]
  have HW := Lib.hid (fun j (hj : j < (n + 63) / 64) => show w.cell? ⟨g, j, none⟩ = some (.int .u64 (ws j : Int)) ∧ ws j < 18446744073709551616 ∧ ∀ q, q < 64 → (ws j).testBit q = S (64 * j + q) from
    ⟨by rw [h8.cell (by omega), (h10 j hj).1], (h10 j hj).2⟩)
  clear h5 h8 h10
  obtain ⟨k, hk⟩ : ∃ k : Nat, (k : Int) = max i 0 := ⟨(max i 0).toNat, by omega⟩
  have HI := Lib.hid (show ∀ r, IsNext n S (k : Int) r → IsNext n S i r from fun r hr => by
    rcases hr with ⟨e, hr⟩ | ⟨q, e, r1, r2, r3, r4⟩
    · exact Or.inl ⟨e, fun j hj => hr j (by omega)⟩
    · exact Or.inr ⟨q, e, r1, by omega, r3, fun j hj => r4 j (by omega)⟩)
  unfold maxLen at h7
  by_cases hkn : n ≤ k
  · have hN := Lib.hid (HI.out (-1) (Or.inl ⟨rfl, fun j h1 h2 => by omega⟩))
    have H11 := Lib.hid h11; clear h11
    go_enter Tryz.func32, Tryz.ntmps32
    go_wp2_with fail
    all_goals (go_ret; exact ⟨-1, rfl, hN.out, rfl⟩)
  · obtain ⟨hcw, hlw, hbw⟩ := HW.out (k / 64) (by omega)
    have hW0 := Lib.hid (word_first (S := S) (i := k) hbw)
    have H11 := Lib.hid h11; clear h11 hbw
    have a1 := and63 k (by omega)
    by_cases hneg : i < 0
    · obtain rfl : k = 0 := by omega
      have a0 : bits BinOp.and IntKind.i64 0 63 = 0 := by kernel_rfl
      clear hk a1
      go_enter Tryz.func32, Tryz.ntmps32
      go_wp2_with fail
      go_loopg [5, 6] ((n + 63) / 64 - 0 / 64) (fun g a v wr => ∃ (aa V : Nat), g = (n + 63) / 64 - aa ∧ aa < (n + 63) / 64 ∧ 0 < 64 * (aa + 1) ∧ a = .int .i64 aa ∧ v = .int .u64 (V : Int) ∧ WordFrom S 0 aa V ∧ V < 18446744073709551616 ∧ (∀ j, 0 ≤ j → j < 64 * aa → S j = false) ∧ wr = w)
      case atStart => exact ⟨0 / 64, (ws (0 / 64) / 2 ^ (0 % 64) * 2 ^ (0 % 64)) % 18446744073709551616, by omega, by omega, by omega, by rfl, by first | rfl | (congr 1; rw [IntKind.wrap_u64]; simp) | (simp [IntKind.wrap_u64]), hW0.out, Nat.mod_lt _ (by omega), fun j h1 h2 => by omega, rfl⟩
      case round =>
        obtain ⟨aa, V, hgk, haa, hka, rfl, rfl, hwf, hV, hz, rfl⟩ := hrel
        have HK := Lib.hid hgk; have HF := Lib.hid hwf; have HZ := Lib.hid hz
        clear hgk hwf hz
        have TZ := Lib.hid (fun (hx : V ≠ 0) => Tryz.tz64 V hV wr (fun _ => hT))
        by_cases hv0 : V = 0
        · subst hv0
          have HZ' := Lib.hid (next_zero HZ.out HF.out)
          by_cases hend : aa + 1 = (n + 63) / 64
          · have hN := Lib.hid (HI.out (-1) (next_none (a := aa + 1) HZ'.out (by omega)))
            have hend' : ((aa : Int) + 1 == ((n + 63) / 64 : Nat)) = true := by rw [beq_iff_eq]; omega
            go_wp2_with fail
            go_ret
            exact ⟨-1, rfl, hN.out, rfl⟩
          · obtain ⟨hcn, hln, hbn⟩ := HW.out (aa + 1) (by omega)
            have HB := Lib.hid (word_next (S := S) (i := 0) (a := aa + 1) (by omega) hbn)
            clear hbn
            have hend' : ((aa : Int) + 1 == ((n + 63) / 64 : Nat)) = false := by rw [beq_eq_false_iff_ne]; omega
            go_wp2_with fail
            go_roundg ((n + 63) / 64 - (aa + 1))
            case measure => rw [HK.out]; omega
            case rel => exact ⟨aa + 1, ws (aa + 1), rfl, by omega, by omega, by go_num, rfl, HB.out, hln, HZ'.out, rfl⟩
        · have hN := Lib.hid (HI.out _ (next_found HZ.out HF.out hv0 hV H11.out))
          have hct := (ctz_bits V hv0 hV).1
          have T := Lib.hid (TZ.out hv0)
          have hv' : ((V : Int) == 0) = false := by rw [beq_eq_false_iff_ne]; omega
          generalize Lib.ctz 64 V = c at *
          go_wp2_with fail
          refine T.out.mono ?_
          rintro e w1 ⟨rfl, rfl⟩
          go_wp2_with fail
          go_ret
          refine ⟨_, rfl, ?_, rfl⟩
          have := hN.out
          rw [show ((64 * aa + c : Nat) : Int) = (aa : Int) * 64 + c by omega] at this
          exact this
    · obtain rfl : i = k := by omega
      clear hk hneg
      go_enter Tryz.func32, Tryz.ntmps32
      go_wp2_with fail
      go_loopg [5, 6] ((n + 63) / 64 - k / 64) (fun g a v wr => ∃ (aa V : Nat), g = (n + 63) / 64 - aa ∧ aa < (n + 63) / 64 ∧ k < 64 * (aa + 1) ∧ a = .int .i64 aa ∧ v = .int .u64 (V : Int) ∧ WordFrom S k aa V ∧ V < 18446744073709551616 ∧ (∀ j, k ≤ j → j < 64 * aa → S j = false) ∧ wr = w)
      case atStart => exact ⟨k / 64, (ws (k / 64) / 2 ^ (k % 64) * 2 ^ (k % 64)) % 18446744073709551616, by omega, by omega, by omega, by first | rfl | go_num, by first | rfl | (congr 1; rw [IntKind.wrap_u64]; simp) | (congr 1; rw [IntKind.wrap_u64]), hW0.out, Nat.mod_lt _ (by omega), fun j h1 h2 => by omega, rfl⟩
      case round =>
        obtain ⟨aa, V, hgk, haa, hka, rfl, rfl, hwf, hV, hz, rfl⟩ := hrel
        have HK := Lib.hid hgk; have HF := Lib.hid hwf; have HZ := Lib.hid hz
        clear hgk hwf hz
        have TZ := Lib.hid (fun (hx : V ≠ 0) => Tryz.tz64 V hV wr (fun _ => hT))
        by_cases hv0 : V = 0
        · subst hv0
          have HZ' := Lib.hid (next_zero HZ.out HF.out)
          by_cases hend : aa + 1 = (n + 63) / 64
          · have hN := Lib.hid (HI.out (-1) (next_none (a := aa + 1) HZ'.out (by omega)))
            have hend' : ((aa : Int) + 1 == ((n + 63) / 64 : Nat)) = true := by rw [beq_iff_eq]; omega
            go_wp2_with fail
            go_ret
            exact ⟨-1, rfl, hN.out, rfl⟩
          · obtain ⟨hcn, hln, hbn⟩ := HW.out (aa + 1) (by omega)
            have HB := Lib.hid (word_next (S := S) (i := k) (a := aa + 1) (by omega) hbn)
            clear hbn
            have hend' : ((aa : Int) + 1 == ((n + 63) / 64 : Nat)) = false := by rw [beq_eq_false_iff_ne]; omega
            go_wp2_with fail
            go_roundg ((n + 63) / 64 - (aa + 1))
            case measure => rw [HK.out]; omega
            case rel => exact ⟨aa + 1, ws (aa + 1), rfl, by omega, by omega, by go_num, rfl, HB.out, hln, HZ'.out, rfl⟩
        · have hN := Lib.hid (HI.out _ (next_found HZ.out HF.out hv0 hV H11.out))
          have hct := (ctz_bits V hv0 hV).1
          have T := Lib.hid (TZ.out hv0)
          have hv' : ((V : Int) == 0) = false := by rw [beq_eq_false_iff_ne]; omega
          generalize Lib.ctz 64 V = c at *
          go_wp2_with fail
          refine T.out.mono ?_
          rintro e w1 ⟨rfl, rfl⟩
          go_wp2_with fail
          go_ret
          refine ⟨_, rfl, ?_, rfl⟩
          have := hN.out
          rw [show ((64 * aa + c : Nat) : Int) = (aa : Int) * 64 + c by omega] at this
          exact this
end Go.Proofs.YtibopjjicfiimaaGreatDoor
