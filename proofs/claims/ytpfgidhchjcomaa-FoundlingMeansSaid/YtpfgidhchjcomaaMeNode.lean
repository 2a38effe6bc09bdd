/- The lexer's words: letters, digits, operators, and a reader of a string in memory. The lexer's names, keywords and operators. The lexer's keywords. The lexer's operators; how many arguments a selector takes. How many arguments a selector takes. A name; a number that fits a word. Searches in rows of strings by a function. A node by value: what is asked of it alone. -/
import Derived.Test.YtpfgidhchjcomaaMeMem
import Derived.Test.YtpfgidhchjcomaaLater
import Derived.Test.YtpfgidhchjcomaaShelf
namespace Go.Proofs.Ytpfgidhchjcomaa
open Go.RowKit
set_option linter.unusedVariables false
theorem ret_int {k : IntKind} {a b : Int} (h : a = b) : Ending.returned (.int k a) = .returned (.int k b) := by rw [h]
theorem ret_bool {a b : Bool} (h : a = b) : Ending.returned (.bool a) = .returned (.bool b) := by rw [h]
def letB (c : Int) : Bool := (decide (97 ≤ c) && decide (c ≤ 122)) || (decide (65 ≤ c) && decide (c ≤ 90))
def digB (c : Int) : Bool := decide (48 ≤ c) && decide (c ≤ 57)
def opS : ByteArray := ⟨#[43, 45, 42, 47, 92, 126, 60, 62, 61, 38, 44, 64, 37, 63]⟩
def opI (c : Int) : Int := Lib.indexByte opS.data.toList c.toNat.toUInt8
def opB (c : Int) : Bool := decide (c ≠ 0) && decide (0 ≤ opI c)
set_option maxRecDepth 100000 in
theorem letter_any (c : Int) (w : World) :
    Calls Try.prog 55 #[.int .u8 c] w fun e w' => e = .returned (.bool (letB c)) ∧ w' = w := by
  unfold letB
  by_cases h1 : 97 ≤ c <;> by_cases h2 : c ≤ 122 <;> by_cases h3 : 65 ≤ c <;> by_cases h4 : c ≤ 90
  all_goals
    go_enter Try.func55, Try.ntmps55
    go_wp2_with fail
    go_ret
    exact ⟨ret_bool (by simp [h1, h2, h3, h4]; try omega), rfl⟩
set_option maxRecDepth 100000 in
theorem digit_any (c : Int) (w : World) :
    Calls Try.prog 59 #[.int .u8 c] w fun e w' => e = .returned (.bool (digB c)) ∧ w' = w := by
  unfold digB
  by_cases h1 : 48 ≤ c <;> by_cases h2 : c ≤ 57
  all_goals
    go_enter Try.func59, Try.ntmps59
    go_wp2_with fail
    go_ret
    exact ⟨ret_bool (by simp [h1, h2]; try omega), rfl⟩
set_option maxRecDepth 100000 in
theorem op_any (c : Int) (w : World) :
    Calls Try.prog 60 #[.int .u8 c] w fun e w' => e = .returned (.bool (opB c)) ∧ w' = w := by
  unfold opB
  have IX := Lib.hid (fun W => Try.strings_IndexByte opS c W)
  by_cases h1 : c = 0
  · subst h1
    go_enter Try.func60, Try.ntmps60
    go_wp2_with fail
    go_ret
    exact ⟨ret_bool (by simp), rfl⟩
  · have e1 : (c == 0) = false := by simpa using h1
    go_enter Try.func60, Try.ntmps60
    go_wp2_with fail
    refine (IX.out _).mono ?_
    rintro e w1 ⟨rfl, rfl⟩
    go_wp2_with fail
    go_ret
    exact ⟨ret_bool (by simp [h1, opI]), rfl⟩
/-- a byte that a name goes on with -/
def nmB (c : Int) : Bool := letB c || digB c
set_option maxRecDepth 100000 in
theorem nm_any (c : Int) (w : World) :
    Calls Try.prog 58 #[.int .u8 c] w fun e w' => e = .returned (.bool (nmB c)) ∧ w' = w := by
  have L := Lib.hid (fun W => letter_any c W)
  have D := Lib.hid (fun W => digit_any c W)
  unfold nmB
  generalize letB c = x at *
  generalize digB c = y at *
  cases x
  · go_enter Try.func58, Try.ntmps58
    go_wp2_with fail
    refine (L.out _).mono ?_
    rintro e w1 ⟨rfl, rfl⟩
    go_wp2_with fail
    refine (D.out _).mono ?_
    rintro e w2 ⟨rfl, rfl⟩
    go_wp2_with fail
    go_ret
    exact ⟨rfl, rfl⟩
  · go_enter Try.func58, Try.ntmps58
    go_wp2_with fail
    refine (L.out _).mono ?_
    rintro e w1 ⟨rfl, rfl⟩
    go_wp2_with fail
    go_ret
    exact ⟨rfl, rfl⟩
/-- a reader of s that stands at a -/
def RdAt (w : World) (b : Nat) (s : ByteArray) (a : Nat) : Prop := w.heap[b]? = some (.cells #[.string s, .int .i64 a] 79 (0, 0))
theorem RdAt.c0 {w : World} {b a : Nat} {s : ByteArray} (h : RdAt w b s a) : w.cell? ⟨b, 0, none⟩ = some (.string s) := cell_of_row w _ 0 _ _ _ h
theorem RdAt.c1 {w : World} {b a : Nat} {s : ByteArray} (h : RdAt w b s a) : w.cell? ⟨b, 1, none⟩ = some (.int .i64 a) := cell_of_row w _ 1 _ _ _ h
def byM (s : ByteArray) (k : Nat) : Int := ((s.data.toList.getD k 0).toNat : Int)
theorem below_dn {B : Nat} {w w' : World} (h : Below B w w') (n : Nat) : Below B w (w'.drewN n) := ⟨h.1, h.2, h.3, h.4, h.5⟩
theorem below_drew (w : World) (n : Nat) : Below w.heap.size w (w.drewN n) := ⟨rfl, rfl, rfl, Nat.le_refl _, fun _ _ => rfl⟩
set_option maxRecDepth 100000 in
theorem peek_any (b : Nat) (s : ByteArray) (a i : Nat) (w : World) (h : RdAt w b s a) (hs : s.size ≤ 1000000) (ha : a ≤ s.size) (hi : i ≤ 1) :
    Calls Try.prog 56 #[.pointer (some ⟨b, 0, none⟩), .int .i64 i] w fun e w' => e = .returned (.int .u8 (byM s (a + i))) ∧ Below w.heap.size w w' := by
  have c0 := h.c0
  have c1 := h.c1
  have hlt := lt_of_cell c0
  clear h
  by_cases hk : s.size ≤ a + i
  · have HV := Lib.hid (show byM s (a + i) = 0 by
      unfold byM
      rw [List.getD_eq_getElem?_getD, List.getElem?_eq_none (by simpa using hk)]; rfl)
    go_enter Try.func56, Try.ntmps56
    go_wp2_with fail
    go_quiet (fail)
    go_wp2_with fail
    go_ret
    rw [HV.out]
    exact ⟨rfl, below_drew _ _⟩
  · have hk' : a + i < s.size := by omega
    have hw : IntKind.i64.wrap ((a : Int) + i) = (a : Int) + i := by unfold IntKind.wrap; simp [IntKind.bits, IntKind.signed]; omega
    have hin : 0 ≤ (a : Int) + i ∧ (a : Int) + i < s.size := by omega
    have HV := Lib.hid (show ∀ h, ((s[((a : Int) + i).toNat]'h).toNat : Int) = byM s (a + i) by
      intro h
      have e : ((a : Int) + i).toNat = a + i := by omega
      simp only [e]
      unfold byM
      rw [List.getD_eq_getElem?_getD, List.getElem?_eq_getElem (by simpa using hk')]; rfl)
    go_enter Try.func56, Try.ntmps56
    go_wp2_with fail
    go_quiet (fail)
    go_wp2_with fail
    go_quiet (fail)
    go_wp2_with fail
    go_ret
    exact ⟨ret_int (HV.out _), below_dn (below_drew _ _) _⟩
/-- where a name that begins at a ends -/
def spanM (s : ByteArray) (a : Nat) : Nat := a + ((s.data.toList.drop a).takeWhile fun c => nmB (c.toNat : Int)).length
theorem span_ge (s : ByteArray) (a : Nat) : a ≤ spanM s a := Nat.le_add_right _ _
theorem span_no (s : ByteArray) (a : Nat) (h : s.size ≤ a ∨ nmB (byM s a) = false) : spanM s a = a := by
  unfold spanM
  by_cases hk : s.size ≤ a
  · rw [List.drop_eq_nil_of_le (by simpa using hk)]; rfl
  · have hk' : a < s.data.toList.length := by simpa using hk
    have hb : nmB ((s.data.toList[a].toNat : Nat) : Int) = false := by
      rcases h with h | h
      · exact absurd h hk
      · unfold byM at h
        rwa [List.getD_eq_getElem?_getD, List.getElem?_eq_getElem hk'] at h
    rw [List.drop_eq_getElem_cons hk', List.takeWhile_cons, hb]; simp
theorem span_yes (s : ByteArray) (a : Nat) (h1 : a < s.size) (h2 : nmB (byM s a) = true) : spanM s a = spanM s (a + 1) := by
  have hk' : a < s.data.toList.length := by simpa using h1
  unfold byM at h2
  rw [List.getD_eq_getElem?_getD, List.getElem?_eq_getElem hk'] at h2
  unfold spanM
  rw [List.drop_eq_getElem_cons hk', List.takeWhile_cons]
  simp only [Option.getD_some] at h2
  rw [h2]
  simp only [if_true, List.length_cons]
  omega
theorem span_le (s : ByteArray) (a : Nat) (h : a ≤ s.size) : spanM s a ≤ s.size := by
  unfold spanM
  have h1 := (List.takeWhile_sublist (fun c : UInt8 => nmB (c.toNat : Int)) (l := s.data.toList.drop a)).length_le
  rw [List.length_drop] at h1
  have h2 : s.data.toList.length = s.size := by simp
  omega
/-- a reader's block, written anew -/
theorem RdAt.move {w : World} {b a : Nat} {s : ByteArray} (h : RdAt w b s a) (k : Nat) : RdAt (w.setCell ⟨b, 1, none⟩ (.int .i64 k)) b s k := by
  unfold RdAt
  rw [heap_setCell_same _ _ _ _ _ _ h]; rfl
theorem grown_set (w : World) (b o : Nat) (v : Value) : w.grownBy (w.setCell ⟨b, o, none⟩ v) (some b) := ⟨rfl, rfl, rfl, by simp, fun k hk hne => Below.heap_setCell _ _ _ _ (by simpa using hne)⟩
theorem grown_dn {w w' : World} {b : Nat} (h : w.grownBy w' (some b)) (n : Nat) : w.grownBy (w'.drewN n) (some b) := ⟨h.1, h.2, h.3, h.4, h.5⟩
theorem grown_two {w w1 w2 : World} {r : Option Nat} (h : w.grownBy w1 r) (h' : w1.grownBy w2 r) : w.grownBy w2 r := ⟨h'.1.trans h.1, h'.2.trans h.2, h'.3.trans h.3, Nat.le_trans h.4 h'.4, fun k hk hne => (h'.5 k (Nat.lt_of_lt_of_le hk h.4) hne).trans (h.5 k hk hne)⟩
theorem ret_str {a b : ByteArray} (h : a = b) : Ending.returned (.string a) = .returned (.string b) := by rw [h]
theorem RdAt.dn {w : World} {b a : Nat} {s : ByteArray} (h : RdAt w b s a) (n : Nat) : RdAt (w.drewN n) b s a := h
set_option maxRecDepth 100000 in
set_option maxHeartbeats 4000000 in
theorem run_any (b : Nat) (s : ByteArray) (a : Nat) (w : World) (h : RdAt w b s a) (hs : s.size ≤ 1000000) (ha : a ≤ s.size) :
    Calls Try.prog 57 #[.pointer (some ⟨b, 0, none⟩), .func (.func 58) #[] #[]] w fun e w' => e = .returned (.string (s.extract a (spanM s a))) ∧ RdAt w' b s (spanM s a) ∧ w.grownBy w' (some b) := by
  have c0 := h.c0
  have c1 := h.c1
  have HR := Lib.hid h
  have NM := Lib.hid (fun c W => nm_any c W)
  clear h
  go_enter Try.func57, Try.ntmps57
  go_wp2_with fail
  go_loopg [] (s.size - a) (fun gg wr => ∃ k : Nat, gg = s.size - k ∧ a ≤ k ∧ k ≤ s.size ∧ spanM s k = spanM s a ∧ RdAt wr b s k ∧ w.grownBy wr (some b))
  case atStart => exact ⟨a, rfl, Nat.le_refl _, ha, rfl, HR.out, ⟨rfl, rfl, rfl, Nat.le_refl _, fun _ _ _ => rfl⟩⟩
  case round =>
    obtain ⟨k, hg, h1, h2, h3, h4, h5⟩ := hrel
    have HG := Lib.hid hg
    have HS := Lib.hid h3
    have HK := Lib.hid h4
    have HW := Lib.hid h5
    have d0 := h4.c0
    have d1 := h4.c1
    have f1 : wr.frozen? ⟨b, 1, none⟩ = false := Lib.frozen_of_heap h4 1
    clear hg h3 h4 h5 c0 c1
    by_cases hk : k < s.size
    · have hin : 0 ≤ (k : Int) ∧ (k : Int) < s.size := by omega
      have HV := Lib.hid (show ∀ h, ((s[((k : Int)).toNat]'h).toNat : Int) = byM s k by
        intro h
        have e : ((k : Int)).toNat = k := by omega
        simp only [e]
        unfold byM
        rw [List.getD_eq_getElem?_getD, List.getElem?_eq_getElem (by simpa using hk)]; rfl)
      by_cases hn : nmB (byM s k) = true
      · have NK := Lib.hid (fun h (W : World) => show Calls Try.prog 58 #[.int .u8 ((s[((k : Int)).toNat]'h).toNat : Int)] W fun e w' => e = .returned (.bool true) ∧ w' = W from by
          rw [HV.out h, ← hn]; exact NM.out _ _)
        have HN := Lib.hid hn
        clear hn
        go_wp2_with fail
        go_quiet (first | (go_at_call 58; exact Calls.quiet_of_same (NK.out _ _)))
        go_wp2_with fail
        go_roundg (s.size - (k + 1))
        case measure => rw [HG.out]; omega
        case rel => exact ⟨k + 1, rfl, by omega, by omega, by rw [← HS.out]; exact (span_yes s k hk HN.out).symm, (HK.out.dn _).move (k + 1), grown_two (grown_dn HW.out _) (grown_set _ b 1 _)⟩
      · have NK := Lib.hid (fun h (W : World) => show Calls Try.prog 58 #[.int .u8 ((s[((k : Int)).toNat]'h).toNat : Int)] W fun e w' => e = .returned (.bool false) ∧ w' = W from by
          rw [HV.out h, ← (Bool.not_eq_true _ ▸ hn : nmB (byM s k) = false)]; exact NM.out _ _)
        have HE := Lib.hid (show spanM s a = k by rw [← HS.out]; exact span_no s k (Or.inr (Bool.not_eq_true _ ▸ hn)))
        clear hn
        go_wp2_with fail
        go_quiet (first | (go_at_call 58; exact Calls.quiet_of_same (NK.out _ _)))
        go_wp2_with fail
        go_quiet (fail)
        go_wp2_with fail
        go_ret
        rw [HE.out]
        exact ⟨ret_str (by simp), (HK.out.dn _).dn _, grown_dn (grown_dn HW.out _) _⟩
    · have HE := Lib.hid (show spanM s a = k by rw [← HS.out]; exact span_no s k (Or.inl (by omega)))
      go_wp2_with fail
      go_quiet (fail)
      go_wp2_with fail
      go_quiet (fail)
      go_wp2_with fail
      go_ret
      rw [HE.out]
      exact ⟨ret_str (by simp), (HK.out.dn _).dn _, grown_dn (grown_dn HW.out _) _⟩
end Go.Proofs.Ytpfgidhchjcomaa
namespace Go.Proofs.Ytpfgidhchjcomaa
open Go.RowKit
set_option linter.unusedVariables false
theorem grown_of {w w' : World} {b : Nat} (h : Below w.heap.size w w') : w.grownBy w' (some b) := ⟨h.os, h.tape, h.output, h.size, fun k hk _ => h.block k hk⟩
theorem RdAt.below {w w' : World} {b a : Nat} {s : ByteArray} (h : RdAt w b s a) (hb : Below w.heap.size w w') : RdAt w' b s a := by
  have hl := lt_of_cell h.c0
  unfold RdAt at *
  rw [hb.block b hl, h]
/-- the name that stands at a: its end -/
def nameE (s : ByteArray) (a : Nat) : Nat := if letB (byM s a) = true then spanM s a else a
theorem nameE_le (s : ByteArray) (a : Nat) (h : a ≤ s.size) : a ≤ nameE s a ∧ nameE s a ≤ s.size := by
  unfold nameE
  split
  · exact ⟨span_ge s a, span_le s a h⟩
  · exact ⟨Nat.le_refl _, h⟩
set_option maxRecDepth 100000 in
theorem name_any (b : Nat) (s : ByteArray) (a : Nat) (w : World) (h : RdAt w b s a) (hs : s.size ≤ 1000000) (ha : a ≤ s.size) :
    Calls Try.prog 31 #[.pointer (some ⟨b, 0, none⟩)] w fun e w' => e = .returned (.string (s.extract a (nameE s a))) ∧ RdAt w' b s (nameE s a) ∧ w.grownBy w' (some b) := by
  have HR := Lib.hid h
  have PK := Lib.hid (peek_any b s a 0 w h hs ha (by omega))
  have LT := Lib.hid (fun c W => letter_any c W)
  have RN := Lib.hid (fun W h => run_any b s a W h hs ha)
  clear h
  unfold nameE
  by_cases hl : letB (byM s a) = true
  · rw [if_pos hl]
    have LB := Lib.hid hl
    clear hl
    go_enter Try.func31, Try.ntmps31
    go_wp2_with fail
    refine PK.out.mono ?_
    rintro e w1 ⟨rfl, hb1⟩
    have H1 := Lib.hid (HR.out.below hb1)
    have G1 := Lib.hid (grown_of (b := b) hb1)
    clear hb1
    go_wp2_with fail
    refine (LT.out _ _).mono ?_
    rintro e w2 ⟨rfl, rfl⟩
    rw [LB.out]
    go_wp2_with fail
    refine (RN.out _ H1.out).mono ?_
    rintro e w3 ⟨rfl, h3, g3⟩
    have H3 := Lib.hid h3
    have G3 := Lib.hid (grown_two G1.out g3)
    clear h3 g3
    go_wp2_with fail
    go_ret
    exact ⟨rfl, H3.out, G3.out⟩
  · rw [if_neg hl]
    have hf : letB (byM s a) = false := by simpa using hl
    have LB := Lib.hid hf
    clear hl hf
    go_enter Try.func31, Try.ntmps31
    go_wp2_with fail
    refine PK.out.mono ?_
    rintro e w1 ⟨rfl, hb1⟩
    have H1 := Lib.hid (HR.out.below hb1)
    have G1 := Lib.hid (grown_of (b := b) hb1)
    clear hb1
    go_wp2_with fail
    refine (LT.out _ _).mono ?_
    rintro e w2 ⟨rfl, rfl⟩
    rw [LB.out]
    go_wp2_with fail
    go_ret
    exact ⟨ret_str (by simp; rfl), H1.out, G1.out⟩
/-- a colon that is no ':=' -/
def colB (s : ByteArray) (a : Nat) : Bool := decide (byM s a = 58) && !decide (byM s (a + 1) = 61)
set_option maxRecDepth 100000 in
theorem colon_any (b : Nat) (s : ByteArray) (a : Nat) (w : World) (h : RdAt w b s a) (hs : s.size ≤ 1000000) (ha : a ≤ s.size) :
    Calls Try.prog 51 #[.pointer (some ⟨b, 0, none⟩)] w fun e w' => e = .returned (.bool (colB s a)) ∧ RdAt w' b s (if colB s a = true then a + 1 else a) ∧ w.grownBy w' (some b) := by
  have HR := Lib.hid h
  have PK := Lib.hid (fun W i (hi : i ≤ 1) (h : RdAt W b s a) => peek_any b s a i W h hs ha hi)
  clear h
  unfold colB
  by_cases h1 : byM s a = 58
  · by_cases h2 : byM s (a + 1) = 61
    · have P0 := Lib.hid (fun W (h : RdAt W b s a) => show Calls Try.prog 56 #[.pointer (some ⟨b, 0, none⟩), .int .i64 0] W fun e w' => e = .returned (.int .u8 58) ∧ Below W.heap.size W w' from by rw [← h1]; exact PK.out W 0 (by omega) h)
      have P1 := Lib.hid (fun W (h : RdAt W b s a) => show Calls Try.prog 56 #[.pointer (some ⟨b, 0, none⟩), .int .i64 1] W fun e w' => e = .returned (.int .u8 61) ∧ Below W.heap.size W w' from by rw [← h2]; exact PK.out W 1 (by omega) h)
      have HB := Lib.hid (show (decide (byM s a = 58) && !decide (byM s (a + 1) = 61)) = false by simp [h1, h2])
      clear h1 h2
      rw [HB.out]
      go_enter Try.func51, Try.ntmps51
      go_wp2_with fail
      refine (P0.out _ HR.out).mono ?_
      rintro e w1 ⟨rfl, hb1⟩
      have H1 := Lib.hid (HR.out.below hb1)
      have G1 := Lib.hid (grown_of (b := b) hb1)
      clear hb1
      go_wp2_with fail
      refine (P1.out _ H1.out).mono ?_
      rintro e w2 ⟨rfl, hb2⟩
      have H2 := Lib.hid (H1.out.below hb2)
      have G2 := Lib.hid (grown_two G1.out (grown_of (b := b) hb2))
      clear hb2
      go_wp2_with fail
      go_ret
      exact ⟨rfl, H2.out, G2.out⟩
    · have P0 := Lib.hid (fun W (h : RdAt W b s a) => show Calls Try.prog 56 #[.pointer (some ⟨b, 0, none⟩), .int .i64 0] W fun e w' => e = .returned (.int .u8 58) ∧ Below W.heap.size W w' from by rw [← h1]; exact PK.out W 0 (by omega) h)
      have P1 := Lib.hid (fun W (h : RdAt W b s a) => PK.out W 1 (by omega) h)
      have HB := Lib.hid (show (decide (byM s a = 58) && !decide (byM s (a + 1) = 61)) = true by simp [h1, h2])
      generalize byM s (a + 1) = c at *
      have e2 : (c == 61) = false := by simpa using h2
      clear h1 h2
      rw [HB.out]
      go_enter Try.func51, Try.ntmps51
      go_wp2_with fail
      refine (P0.out _ HR.out).mono ?_
      rintro e w1 ⟨rfl, hb1⟩
      have H1 := Lib.hid (HR.out.below hb1)
      have G1 := Lib.hid (grown_of (b := b) hb1)
      clear hb1
      go_wp2_with fail
      refine (P1.out _ H1.out).mono ?_
      rintro e w2 ⟨rfl, hb2⟩
      have h2 := H1.out.below hb2
      have H2 := Lib.hid h2
      have G2 := Lib.hid (grown_two G1.out (grown_of (b := b) hb2))
      have c1 := h2.c1
      have f1 : w2.frozen? ⟨b, 1, none⟩ = false := Lib.frozen_of_heap h2 1
      clear hb2 h2
      go_wp2_with fail
      go_ret
      exact ⟨rfl, H2.out.move (a + 1), grown_two G2.out (grown_set _ b 1 _)⟩
  · have P0 := Lib.hid (fun W (h : RdAt W b s a) => show Calls Try.prog 56 #[.pointer (some ⟨b, 0, none⟩), .int .i64 0] W fun e w' => e = .returned (.int .u8 (byM s a)) ∧ Below W.heap.size W w' from PK.out W 0 (by omega) h)
    have HB := Lib.hid (show (decide (byM s a = 58) && !decide (byM s (a + 1) = 61)) = false by simp [h1])
    rw [HB.out]
    have e1 : (byM s a != 58) = true := by simpa using h1
    generalize byM s a = c at *
    clear h1
    go_enter Try.func51, Try.ntmps51
    go_wp2_with fail
    refine (P0.out _ HR.out).mono ?_
    rintro e w1 ⟨rfl, hb1⟩
    have H1 := Lib.hid (HR.out.below hb1)
    have G1 := Lib.hid (grown_of (b := b) hb1)
    clear hb1
    go_wp2_with fail
    go_ret
    exact ⟨rfl, H1.out, G1.out⟩
end Go.Proofs.Ytpfgidhchjcomaa
namespace Go.Proofs.Ytpfgidhchjcomaa
open Go.RowKit
set_option linter.unusedVariables false
/-- where a selector of keywords ends that begins at p, by as much as f more words -/
def kwE (s : ByteArray) : Nat → Nat → Nat
  | 0, p => p
  | f + 1, p => if p < nameE s p ∧ colB s (nameE s p) = true then kwE s f (nameE s p + 1) else p
theorem kwE_stop (s : ByteArray) (f p : Nat) (h : ¬(p < nameE s p ∧ colB s (nameE s p) = true)) : kwE s f p = p := by
  cases f with
  | zero => rfl
  | succ f => unfold kwE; rw [if_neg h]
theorem kwE_go (s : ByteArray) (f p : Nat) (h : p < nameE s p ∧ colB s (nameE s p) = true) : kwE s (f + 1) p = kwE s f (nameE s p + 1) := by rw [kwE, if_pos h]
theorem colB_lt {s : ByteArray} {a : Nat} (h : colB s a = true) : a < s.size := by
  rcases Nat.lt_or_ge a s.size with hk | hk
  · exact hk
  · have : byM s a = 0 := by
      unfold byM
      rw [List.getD_eq_getElem?_getD, List.getElem?_eq_none (by simpa using hk)]; rfl
    unfold colB at h
    rw [this] at h
    simp at h
theorem kwE_le (s : ByteArray) : ∀ (f p : Nat), p ≤ s.size → p ≤ kwE s f p ∧ kwE s f p ≤ s.size
  | 0, p, h => ⟨Nat.le_refl _, h⟩
  | f + 1, p, h => by
    unfold kwE
    split
    · rename_i hc
      have h1 := colB_lt hc.2
      have h2 := kwE_le s f (nameE s p + 1) (by omega)
      exact ⟨by omega, h2.2⟩
    · exact ⟨Nat.le_refl _, h⟩
theorem ext_same {s : ByteArray} {p : Nat} : (s.extract p p).toList = [] := by
  simp
set_option maxRecDepth 100000 in
set_option maxHeartbeats 4000000 in
theorem keywords_any (b : Nat) (s : ByteArray) (a : Nat) (w : World) (h : RdAt w b s a) (hs : s.size ≤ 1000000) (ha : a ≤ s.size) :
    Calls Try.prog 29 #[.pointer (some ⟨b, 0, none⟩)] w fun e w' => e = .returned (.string (s.extract a (kwE s s.size a))) ∧ RdAt w' b s (kwE s s.size a) ∧ w.grownBy w' (some b) := by
  have c1 := h.c1
  have HR := Lib.hid h
  have NA := Lib.hid (fun W p (h : RdAt W b s p) (hp : p ≤ s.size) => name_any b s p W h hs hp)
  have CO := Lib.hid (fun W p (h : RdAt W b s p) (hp : p ≤ s.size) => colon_any b s p W h hs hp)
  clear h
  go_enter Try.func29, Try.ntmps29
  go_wp2_with fail
  go_quiet (fail)
  go_wp2_with fail
  go_loopg [4] (s.size - a) (fun gg s4 wr => ∃ (p f : Nat), gg = s.size - p ∧ s4 = .int .i64 (p : Int) ∧ a ≤ p ∧ p ≤ s.size ∧ kwE s f p = kwE s s.size a ∧ s.size - p ≤ f ∧ RdAt wr b s p ∧ w.grownBy wr (some b))
  case atStart => exact ⟨a, s.size, rfl, rfl, Nat.le_refl _, ha, rfl, by omega, HR.out.dn _, grown_dn ⟨rfl, rfl, rfl, Nat.le_refl _, fun _ _ _ => rfl⟩ _⟩
  case round =>
    obtain ⟨p, f, hg, rfl, h1, h2, h3, h4, h5, h6⟩ := hrel
    have HG := Lib.hid hg
    have HS := Lib.hid h3
    have HK := Lib.hid h5
    have HW := Lib.hid h6
    have HL := nameE_le s p h2
    clear hg h3 h5 h6 c1
    by_cases hn : p < nameE s p
    · by_cases hc : colB s (nameE s p) = true
      · have NP := Lib.hid (NA.out wr p HK.out h2)
        have NN : ((s.extract p (nameE s p)).toList == ([] : List UInt8)) = false := by
          have hz : (s.extract p (nameE s p)).toList.length = nameE s p - p := by
            rw [ByteArray.toList_eq]
            simp; omega
          cases hx : (s.extract p (nameE s p)).toList with
          | nil => rw [hx] at hz; simp at hz; omega
          | cons x l => rfl
        have CP := Lib.hid (fun W (h : RdAt W b s (nameE s p)) => show Calls Try.prog 51 #[.pointer (some ⟨b, 0, none⟩)] W fun e w' => e = .returned (.bool true) ∧ RdAt w' b s (nameE s p + 1) ∧ W.grownBy w' (some b) from by
          have := CO.out W _ h HL.2
          rw [if_pos hc, hc] at this; exact this)
        have hq := colB_lt hc
        obtain ⟨g, rfl⟩ : ∃ g, f = g + 1 := ⟨f - 1, by omega⟩
        have HE := Lib.hid (show kwE s g (nameE s p + 1) = kwE s s.size a by
          rw [← HS.out, kwE_go s g p ⟨hn, hc⟩])
        clear hc
        generalize nameE s p = q at *
        generalize s.extract p q = nm at *
        go_wp2_with fail
        refine NP.out.mono ?_
        rintro e w1 ⟨rfl, h5, h6⟩
        have H1 := Lib.hid h5
        have G1 := Lib.hid (grown_two HW.out h6)
        clear h5 h6
        go_wp2_with fail
        refine (CP.out _ H1.out).mono ?_
        rintro e w2 ⟨rfl, h5, h6⟩
        have c1 := h5.c1
        have H2 := Lib.hid h5
        have G2 := Lib.hid (grown_two G1.out h6)
        clear h5 h6
        go_wp2_with fail
        go_roundg (s.size - (q + 1))
        case measure => rw [HG.out]; omega
        case rel => exact ⟨q + 1, g, rfl, rfl, by omega, by omega, HE.out, by omega, H2.out, G2.out⟩
      · have NP := Lib.hid (NA.out wr p HK.out h2)
        have NN : ((s.extract p (nameE s p)).toList == ([] : List UInt8)) = false := by
          have hz : (s.extract p (nameE s p)).toList.length = nameE s p - p := by
            rw [ByteArray.toList_eq]
            simp; omega
          cases hx : (s.extract p (nameE s p)).toList with
          | nil => rw [hx] at hz; simp at hz; omega
          | cons x l => rfl
        have CP := Lib.hid (fun W (h : RdAt W b s (nameE s p)) => show Calls Try.prog 51 #[.pointer (some ⟨b, 0, none⟩)] W fun e w' => e = .returned (.bool false) ∧ RdAt w' b s (nameE s p) ∧ W.grownBy w' (some b) from by
          have := CO.out W _ h HL.2
          rw [if_neg hc, show colB s (nameE s p) = false by simpa using hc] at this; exact this)
        have HE := Lib.hid (show kwE s s.size a = p by rw [← HS.out]; exact kwE_stop s f p (fun h => hc h.2))
        clear hc
        generalize nameE s p = q at *
        generalize s.extract p q = nm at *
        go_wp2_with fail
        refine NP.out.mono ?_
        rintro e w1 ⟨rfl, h5, h6⟩
        have H0 := Lib.hid h5
        have G0 := Lib.hid (grown_two HW.out h6)
        clear h5 h6
        go_wp2_with fail
        refine (CP.out _ H0.out).mono ?_
        rintro e w2 ⟨rfl, h5, h6⟩
        have c0 := h5.c0
        have c1 := h5.c1
        have f1 : w2.frozen? ⟨b, 1, none⟩ = false := Lib.frozen_of_heap h5 1
        have H1 := Lib.hid h5
        have G1 := Lib.hid (grown_two G0.out h6)
        clear h5 h6
        go_wp2_with fail
        go_ret
        rw [HE.out]
        exact ⟨rfl, H1.out.move p, grown_two G1.out (grown_set _ b 1 _)⟩
    · have he : nameE s p = p := by omega
      have HE := Lib.hid (show kwE s s.size a = p by rw [← HS.out]; exact kwE_stop s f p (fun h => hn h.1))
      have NP := Lib.hid (show Calls Try.prog 31 #[.pointer (some ⟨b, 0, none⟩)] wr fun e w' => e = .returned (.string ⟨#[]⟩) ∧ RdAt w' b s p ∧ wr.grownBy w' (some b) from by
        have := NA.out wr p HK.out h2
        rw [he] at this
        rwa [show s.extract p p = ⟨#[]⟩ by simp; rfl] at this)
      clear he hn HL
      go_wp2_with fail
      refine NP.out.mono ?_
      rintro e w1 ⟨rfl, h5, h6⟩
      have c0 := h5.c0
      have c1 := h5.c1
      have f1 : w1.frozen? ⟨b, 1, none⟩ = false := Lib.frozen_of_heap h5 1
      have H1 := Lib.hid h5
      have G1 := Lib.hid (grown_two HW.out h6)
      clear h5 h6
      go_wp2_with fail
      go_ret
      rw [HE.out]
      exact ⟨rfl, H1.out.move p, grown_two G1.out (grown_set _ b 1 _)⟩
end Go.Proofs.Ytpfgidhchjcomaa
namespace Go.Proofs.Ytpfgidhchjcomaa
open Go.RowKit
set_option linter.unusedVariables false
theorem byM_out {s : ByteArray} {a : Nat} (h : s.size ≤ a) : byM s a = 0 := by
  unfold byM
  rw [List.getD_eq_getElem?_getD, List.getElem?_eq_none (by simpa using h)]; rfl
theorem opB_zero : opB 0 = false := by simp [opB]
theorem opB_lt {s : ByteArray} {a : Nat} (h : opB (byM s a) = true) : a < s.size := by
  rcases Nat.lt_or_ge a s.size with hk | hk
  · exact hk
  · rw [byM_out hk, opB_zero] at h; cases h
/-- a second byte of an operator -/
def op2B (s : ByteArray) (a : Nat) : Bool := opB (byM s (a + 1)) && !decide (byM s (a + 1) = 45)
def operE (s : ByteArray) (a : Nat) : Nat := if byM s a = 124 then a + 1 else if opB (byM s a) = true then (if op2B s a = true then a + 2 else a + 1) else a
def operS (s : ByteArray) (a : Nat) : ByteArray := if byM s a = 124 then ⟨#[124]⟩ else s.extract a (operE s a)
theorem operE_le (s : ByteArray) (a : Nat) (h : a ≤ s.size) : operE s a ≤ s.size := by
  unfold operE
  split
  · rename_i h1
    rcases Nat.lt_or_ge a s.size with hk | hk
    · omega
    · rw [byM_out hk] at h1; cases h1
  · split
    · rename_i h1
      have := opB_lt h1
      split
      · rename_i h2
        unfold op2B at h2
        have := opB_lt (s := s) (a := a + 1) (by revert h2; cases opB (byM s (a + 1)) <;> simp)
        omega
      · omega
    · exact h
/-- behind a look ahead -/
def Pk (s : ByteArray) (b a i : Nat) (c : Int) : Prop := ∀ W, RdAt W b s a → Calls Try.prog 56 #[.pointer (some ⟨b, 0, none⟩), .int .i64 i] W fun e w' => e = .returned (.int .u8 c) ∧ RdAt w' b s a ∧ W.grownBy w' (some b)
theorem pk_of {s : ByteArray} {b a i : Nat} {c : Int} (hs : s.size ≤ 1000000) (ha : a ≤ s.size) (hi : i ≤ 1) (hc : byM s (a + i) = c) : Pk s b a i c := by
  intro W h
  refine (peek_any b s a i W h hs ha hi).mono ?_
  rintro e w' ⟨rfl, hb⟩
  exact ⟨by rw [hc], h.below hb, grown_of hb⟩
def Opc (c : Int) (x : Bool) : Prop := ∀ W, Calls Try.prog 60 #[.int .u8 c] W fun e w' => e = .returned (.bool x) ∧ w' = W
theorem opc_of {c : Int} {x : Bool} (h : opB c = x) : Opc c x := fun W => by rw [← h]; exact op_any c W
set_option maxRecDepth 100000 in
set_option maxHeartbeats 4000000 in
theorem oper_any (b : Nat) (s : ByteArray) (a : Nat) (w : World) (h : RdAt w b s a) (hs : s.size ≤ 1000000) (ha : a ≤ s.size) :
    Calls Try.prog 32 #[.pointer (some ⟨b, 0, none⟩)] w fun e w' => e = .returned (.string (operS s a)) ∧ RdAt w' b s (operE s a) ∧ w.grownBy w' (some b) := by
  have HR := Lib.hid h
  have HE := Lib.hid (operE_le s a ha)
  clear h
  unfold operS
  by_cases h1 : byM s a = 124
  · have P0 := Lib.hid (pk_of (b := b) (i := 0) hs ha (by omega) h1)
    have E1 := Lib.hid (show operE s a = a + 1 by unfold operE; rw [if_pos h1])
    rw [if_pos h1, E1.out]
    clear h1
    go_enter Try.func32, Try.ntmps32
    go_wp2_with fail
    refine (P0.out _ HR.out).mono ?_
    rintro e w1 ⟨rfl, h5, h6⟩
    have c1 := h5.c1
    have f1 : w1.frozen? ⟨b, 1, none⟩ = false := Lib.frozen_of_heap h5 1
    have H1 := Lib.hid h5
    have G1 := Lib.hid h6
    clear h5 h6
    go_wp2_with fail
    go_ret
    exact ⟨rfl, H1.out.move (a + 1), grown_two G1.out (grown_set _ b 1 _)⟩
  · rw [if_neg h1]
    by_cases h2 : opB (byM s a) = true
    · by_cases h3 : op2B s a = true
      · have e1 : (byM s a == 124) = false := by simpa using h1
        have P0 := Lib.hid (pk_of (b := b) (i := 0) (c := byM s a) hs ha (by omega) rfl)
        have O0 := Lib.hid (opc_of h2)
        have hk := opB_lt h2
        obtain ⟨h4, h5⟩ : opB (byM s (a + 1)) = true ∧ ¬ byM s (a + 1) = 45 := by
          unfold op2B at h3
          revert h3; cases opB (byM s (a + 1)) <;> simp
        have E1 := Lib.hid (show operE s a = a + 2 by unfold operE; rw [if_neg h1, if_pos h2, if_pos h3])
        have HEE := HE.out
        rw [E1.out] at HEE ⊢
        have P1 := Lib.hid (pk_of (b := b) (i := 1) (c := byM s (a + 1)) hs ha (by omega) rfl)
        have O1 := Lib.hid (opc_of h4)
        have e4 : (byM s (a + 1) != 45) = true := by simpa using h5
        clear h1 h2 h3 h4 h5
        generalize byM s (a + 1) = c' at *
        generalize byM s a = c at *
        go_enter Try.func32, Try.ntmps32
        go_wp2_with fail
        refine (P0.out _ HR.out).mono ?_
        rintro e w1 ⟨rfl, h5, h6⟩
        have H1 := Lib.hid h5
        have G1 := Lib.hid h6
        clear h5 h6
        go_wp2_with fail
        refine (P0.out _ H1.out).mono ?_
        rintro e w2 ⟨rfl, h5, h6⟩
        have H2 := Lib.hid h5
        have G2 := Lib.hid (grown_two G1.out h6)
        clear h5 h6
        go_wp2_with fail
        refine (O0.out _).mono ?_
        rintro e w3 ⟨rfl, rfl⟩
        go_wp2_with fail
        refine (P1.out _ H2.out).mono ?_
        rintro e w4 ⟨rfl, h5, h6⟩
        have H3 := Lib.hid h5
        have G3 := Lib.hid (grown_two G2.out h6)
        clear h5 h6
        go_wp2_with fail
        refine (O1.out _).mono ?_
        rintro e w5 ⟨rfl, rfl⟩
        go_wp2_with fail
        refine (P1.out _ H3.out).mono ?_
        rintro e w6 ⟨rfl, h5, h6⟩
        have c0 := h5.c0
        have c1 := h5.c1
        have f1 : w6.frozen? ⟨b, 1, none⟩ = false := Lib.frozen_of_heap h5 1
        have H4 := Lib.hid h5
        have G4 := Lib.hid (grown_two G3.out h6)
        clear h5 h6
        go_wp2_with fail
        go_quiet (fail)
        go_wp2_with fail
        go_ret
        exact ⟨ret_str (by simp), (H4.out.move (a + 2)).dn _, grown_dn (grown_two G4.out (grown_set _ b 1 _)) _⟩
      · by_cases h4 : opB (byM s (a + 1)) = true
        · have e1 : (byM s a == 124) = false := by simpa using h1
          have P0 := Lib.hid (pk_of (b := b) (i := 0) (c := byM s a) hs ha (by omega) rfl)
          have O0 := Lib.hid (opc_of h2)
          have hk := opB_lt h2
          have h5 : byM s (a + 1) = 45 := by
            unfold op2B at h3
            rw [h4] at h3; simpa using h3
          have E1 := Lib.hid (show operE s a = a + 1 by unfold operE; rw [if_neg h1, if_pos h2, if_neg h3])
          have HEE := HE.out
          rw [E1.out] at HEE ⊢
          have P1 := Lib.hid (pk_of (b := b) (i := 1) hs ha (by omega) h5)
          have O1 := Lib.hid (opc_of (by rw [← h5]; exact h4 : opB 45 = true))
          clear h1 h2 h3 h4 h5
          generalize byM s a = c at *
          go_enter Try.func32, Try.ntmps32
          go_wp2_with fail
          refine (P0.out _ HR.out).mono ?_
          rintro e w1 ⟨rfl, h5, h6⟩
          have H1 := Lib.hid h5
          have G1 := Lib.hid h6
          clear h5 h6
          go_wp2_with fail
          refine (P0.out _ H1.out).mono ?_
          rintro e w2 ⟨rfl, h5, h6⟩
          have H2 := Lib.hid h5
          have G2 := Lib.hid (grown_two G1.out h6)
          clear h5 h6
          go_wp2_with fail
          refine (O0.out _).mono ?_
          rintro e w3 ⟨rfl, rfl⟩
          go_wp2_with fail
          refine (P1.out _ H2.out).mono ?_
          rintro e w4 ⟨rfl, h5, h6⟩
          have H3 := Lib.hid h5
          have G3 := Lib.hid (grown_two G2.out h6)
          clear h5 h6
          go_wp2_with fail
          refine (O1.out _).mono ?_
          rintro e w5 ⟨rfl, rfl⟩
          go_wp2_with fail
          refine (P1.out _ H3.out).mono ?_
          rintro e w6 ⟨rfl, h5, h6⟩
          have c0 := h5.c0
          have c1 := h5.c1
          have f1 : w6.frozen? ⟨b, 1, none⟩ = false := Lib.frozen_of_heap h5 1
          have H4 := Lib.hid h5
          have G4 := Lib.hid (grown_two G3.out h6)
          clear h5 h6
          go_wp2_with fail
          go_quiet (fail)
          go_wp2_with fail
          go_ret
          exact ⟨ret_str (by simp), (H4.out.move (a + 1)).dn _, grown_dn (grown_two G4.out (grown_set _ b 1 _)) _⟩
        · have h4 : opB (byM s (a + 1)) = false := by simpa using h4
          have e1 : (byM s a == 124) = false := by simpa using h1
          have P0 := Lib.hid (pk_of (b := b) (i := 0) (c := byM s a) hs ha (by omega) rfl)
          have O0 := Lib.hid (opc_of h2)
          have hk := opB_lt h2
          have E1 := Lib.hid (show operE s a = a + 1 by unfold operE; rw [if_neg h1, if_pos h2, if_neg h3])
          have HEE := HE.out
          rw [E1.out] at HEE ⊢
          have P1 := Lib.hid (pk_of (b := b) (i := 1) (c := byM s (a + 1)) hs ha (by omega) rfl)
          have O1 := Lib.hid (opc_of h4)
          clear h1 h2 h3 h4
          generalize byM s (a + 1) = c' at *
          generalize byM s a = c at *
          go_enter Try.func32, Try.ntmps32
          go_wp2_with fail
          refine (P0.out _ HR.out).mono ?_
          rintro e w1 ⟨rfl, h5, h6⟩
          have H1 := Lib.hid h5
          have G1 := Lib.hid h6
          clear h5 h6
          go_wp2_with fail
          refine (P0.out _ H1.out).mono ?_
          rintro e w2 ⟨rfl, h5, h6⟩
          have H2 := Lib.hid h5
          have G2 := Lib.hid (grown_two G1.out h6)
          clear h5 h6
          go_wp2_with fail
          refine (O0.out _).mono ?_
          rintro e w3 ⟨rfl, rfl⟩
          go_wp2_with fail
          refine (P1.out _ H2.out).mono ?_
          rintro e w4 ⟨rfl, h5, h6⟩
          have c0 := h5.c0
          have c1 := h5.c1
          have f1 : w4.frozen? ⟨b, 1, none⟩ = false := Lib.frozen_of_heap h5 1
          have H4 := Lib.hid h5
          have G4 := Lib.hid (grown_two G2.out h6)
          clear h5 h6
          go_wp2_with fail
          refine (O1.out _).mono ?_
          rintro e w5 ⟨rfl, rfl⟩
          go_wp2_with fail
          go_quiet (fail)
          go_wp2_with fail
          go_ret
          exact ⟨ret_str (by simp), (H4.out.move (a + 1)).dn _, grown_dn (grown_two G4.out (grown_set _ b 1 _)) _⟩
    · have e2 : opB (byM s a) = false := by simpa using h2
      have E1 := Lib.hid (show operE s a = a by unfold operE; rw [if_neg h1, if_neg h2])
      have P0 := Lib.hid (pk_of (b := b) (i := 0) (c := byM s a) hs ha (by omega) rfl)
      have O0 := Lib.hid (opc_of e2)
      have e1 : (byM s a == 124) = false := by simpa using h1
      rw [E1.out]
      clear h1 h2 e2
      generalize byM s a = c at *
      go_enter Try.func32, Try.ntmps32
      go_wp2_with fail
      refine (P0.out _ HR.out).mono ?_
      rintro e w1 ⟨rfl, h5, h6⟩
      have H1 := Lib.hid h5
      have G1 := Lib.hid h6
      clear h5 h6
      go_wp2_with fail
      refine (P0.out _ H1.out).mono ?_
      rintro e w2 ⟨rfl, h5, h6⟩
      have H2 := Lib.hid h5
      have G2 := Lib.hid (grown_two G1.out h6)
      clear h5 h6
      go_wp2_with fail
      refine (O0.out _).mono ?_
      rintro e w3 ⟨rfl, rfl⟩
      go_wp2_with fail
      go_ret
      exact ⟨ret_str (by simp; rfl), H2.out, G2.out⟩
end Go.Proofs.Ytpfgidhchjcomaa
namespace Go.Proofs.Ytpfgidhchjcomaa
open Go.RowKit
set_option linter.unusedVariables false
theorem below_grown {B k : Nat} {w w' : World} (hB : B ≤ k) (hw : B ≤ w.heap.size) (hg : w.grownBy w' (some k)) : Below B w w' := ⟨hg.os, hg.tape, hg.output, hg.size, fun j hj => hg.block j (Nat.lt_of_lt_of_le hj hw) (by simp; omega)⟩
theorem rd_new (w : World) (s : ByteArray) : RdAt (w.alloc (.cells #[.string s, .int .i64 0] 79 (0, 0))) w.heap.size s 0 := by unfold RdAt; show (w.heap.push _)[w.heap.size]? = _; rw [Array.getElem?_push_size]; rfl
def eqS (x s : ByteArray) : Bool := x.toList == s.toList
def arM (s : ByteArray) : Int :=
  if s.size = 0 ∨ 64 < s.size then -1
  else if eqS (s.extract 0 (kwE s s.size 0)) s = true then Lib.countByte s.data.toList 58
  else if eqS (s.extract 0 (nameE s 0)) s = true then 0
  else if eqS (operS s 0) s = true then 1
  else -1
set_option maxRecDepth 100000 in
set_option maxHeartbeats 4000000 in
theorem arity_any (s : ByteArray) (w : World) :
    Calls Try.prog 20 #[.string s] w fun e w' => e = .returned (.int .i64 (arM s)) ∧ Below w.heap.size w w' := by
  by_cases hb : s.size = 0 ∨ 64 < s.size
  · rw [show arM s = -1 by unfold arM; rw [if_pos hb]]
    by_cases hz : s.size = 0
    · obtain rfl : s = ⟨#[]⟩ := by
        cases s with
        | mk d =>
          have : d = #[] := Array.eq_empty_of_size_eq_zero hz
          rw [this]
      go_enter Try.func20, Try.ntmps20
      go_wp2_with fail
      go_ret
      exact ⟨rfl, (Below.refl _ _).alloc (Nat.le_refl _) _⟩
    · have hz1 : (s.toList == ([] : List UInt8)) = false := by
        cases hx : s.toList with
        | nil =>
          rw [ByteArray.toList_eq] at hx
          have : s.size = 0 := by show s.data.size = 0; rw [← Array.length_toList, hx]; rfl
          omega
        | cons x l => rfl
      have hz2 : 64 < s.size := by omega
      go_enter Try.func20, Try.ntmps20
      go_wp2_with fail
      go_ret
      exact ⟨rfl, (Below.refl _ _).alloc (Nat.le_refl _) _⟩
  · have hz : (s.toList == ([] : List UInt8)) = false := by
      cases hx : s.toList with
      | nil =>
        rw [ByteArray.toList_eq] at hx
        have : s.size = 0 := by show s.data.size = 0; rw [← Array.length_toList, hx]; rfl
        omega
      | cons x l => rfl
    have hz2 : ¬ 64 < s.size := by omega
    have hs : s.size ≤ 1000000 := by omega
    have HA := Lib.hid (show arM s = if eqS (s.extract 0 (kwE s s.size 0)) s = true then (Lib.countByte s.data.toList 58 : Int) else if eqS (s.extract 0 (nameE s 0)) s = true then 0 else if eqS (operS s 0) s = true then 1 else -1 by
      unfold arM; rw [if_neg hb])
    rw [HA.out]
    clear HA hb
    have KW := Lib.hid (fun W b (h : RdAt W b s 0) => keywords_any b s 0 W h hs (by omega))
    have NA := Lib.hid (fun W b (h : RdAt W b s 0) => name_any b s 0 W h hs (by omega))
    have OP := Lib.hid (fun W b (h : RdAt W b s 0) => oper_any b s 0 W h hs (by omega))
    have CT := Lib.hid (fun W => Try.strings_Count_one s 58 W)
    have l1 := (kwE_le s s.size 0 (by omega)).2
    have l2 := (nameE_le s 0 (by omega)).2
    generalize Lib.countByte s.data.toList 58 = ct at *
    generalize kwE s s.size 0 = q1 at *
    generalize nameE s 0 = q2 at *
    generalize operE s 0 = q3 at *
    generalize s.extract 0 q1 = x1 at *
    generalize s.extract 0 q2 = x2 at *
    generalize operS s 0 = x3 at *
    unfold eqS
    by_cases k1 : (x1.toList == s.toList) = true
    · rw [if_pos k1]
      go_enter Try.func20, Try.ntmps20
      go_wp2_with fail
      have H1 := Lib.hid (show RdAt (w.alloc (.cells #[.string s, .int .i64 0] 79 (0, 0))) w.heap.size s 0 from rd_new w s)
      refine (KW.out _ _ H1.out).mono ?_
      rintro e w2 ⟨rfl, h5, h6⟩
      have G2 := Lib.hid (show Below w.heap.size w w2 from ((Below.refl _ _).alloc (Nat.le_refl _) _).trans (below_grown (Nat.le_refl _) (by simp) h6))
      have H2 := Lib.hid h5
      have c1 := h5.c1
      have f1 : w2.frozen? ⟨w.heap.size, 1, none⟩ = false := Lib.frozen_of_heap h5 1
      clear h5 h6
      go_wp2_with fail
      refine (CT.out _).mono ?_
      rintro e w3 ⟨rfl, rfl⟩
      go_wp2_with fail
      go_ret
      exact ⟨rfl, G2.out⟩
    · rw [if_neg k1]
      have k1' : (x1.toList == s.toList) = false := by simpa using k1
      clear k1
      by_cases k2 : (x2.toList == s.toList) = true
      · rw [if_pos k2]
        go_enter Try.func20, Try.ntmps20
        go_wp2_with fail
        have H1 := Lib.hid (show RdAt (w.alloc (.cells #[.string s, .int .i64 0] 79 (0, 0))) w.heap.size s 0 from rd_new w s)
        refine (KW.out _ _ H1.out).mono ?_
        rintro e w2 ⟨rfl, h5, h6⟩
        have G2 := Lib.hid (show Below w.heap.size w w2 from ((Below.refl _ _).alloc (Nat.le_refl _) _).trans (below_grown (Nat.le_refl _) (by simp) h6))
        have H2 := Lib.hid h5
        have c1 := h5.c1
        have f1 : w2.frozen? ⟨w.heap.size, 1, none⟩ = false := Lib.frozen_of_heap h5 1
        clear h5 h6
        go_wp2_with fail
        have H3 := Lib.hid (show RdAt (w2.setCell ⟨w.heap.size, 1, none⟩ (.int .i64 0)) w.heap.size s 0 from H2.out.move 0)
        refine (NA.out _ _ H3.out).mono ?_
        rintro e w4 ⟨rfl, h5, h6⟩
        have G4 := Lib.hid (show Below w.heap.size w w4 from (G2.out.setCell (p := ⟨w.heap.size, 1, none⟩) (Nat.le_refl _) _).trans (below_grown (Nat.le_refl _) (by simpa using G2.out.size) h6))
        have H4 := Lib.hid h5
        have c1 := h5.c1
        have f1 : w4.frozen? ⟨w.heap.size, 1, none⟩ = false := Lib.frozen_of_heap h5 1
        clear h5 h6
        go_wp2_with fail
        go_ret
        exact ⟨rfl, G4.out⟩
      · rw [if_neg k2]
        have k2' : (x2.toList == s.toList) = false := by simpa using k2
        clear k2
        by_cases k3 : (x3.toList == s.toList) = true
        · rw [if_pos k3]
          go_enter Try.func20, Try.ntmps20
          go_wp2_with fail
          have H1 := Lib.hid (show RdAt (w.alloc (.cells #[.string s, .int .i64 0] 79 (0, 0))) w.heap.size s 0 from rd_new w s)
          refine (KW.out _ _ H1.out).mono ?_
          rintro e w2 ⟨rfl, h5, h6⟩
          have G2 := Lib.hid (show Below w.heap.size w w2 from ((Below.refl _ _).alloc (Nat.le_refl _) _).trans (below_grown (Nat.le_refl _) (by simp) h6))
          have H2 := Lib.hid h5
          have c1 := h5.c1
          have f1 : w2.frozen? ⟨w.heap.size, 1, none⟩ = false := Lib.frozen_of_heap h5 1
          clear h5 h6
          go_wp2_with fail
          have H3 := Lib.hid (show RdAt (w2.setCell ⟨w.heap.size, 1, none⟩ (.int .i64 0)) w.heap.size s 0 from H2.out.move 0)
          refine (NA.out _ _ H3.out).mono ?_
          rintro e w4 ⟨rfl, h5, h6⟩
          have G4 := Lib.hid (show Below w.heap.size w w4 from (G2.out.setCell (p := ⟨w.heap.size, 1, none⟩) (Nat.le_refl _) _).trans (below_grown (Nat.le_refl _) (by simpa using G2.out.size) h6))
          have H4 := Lib.hid h5
          have c1 := h5.c1
          have f1 : w4.frozen? ⟨w.heap.size, 1, none⟩ = false := Lib.frozen_of_heap h5 1
          clear h5 h6
          go_wp2_with fail
          have H5 := Lib.hid (show RdAt (w4.setCell ⟨w.heap.size, 1, none⟩ (.int .i64 0)) w.heap.size s 0 from H4.out.move 0)
          refine (OP.out _ _ H5.out).mono ?_
          rintro e w6 ⟨rfl, h5, h6⟩
          have G6 := Lib.hid (show Below w.heap.size w w6 from (G4.out.setCell (p := ⟨w.heap.size, 1, none⟩) (Nat.le_refl _) _).trans (below_grown (Nat.le_refl _) (by simpa using G4.out.size) h6))
          have H6 := Lib.hid h5
          have c1 := h5.c1
          have f1 : w6.frozen? ⟨w.heap.size, 1, none⟩ = false := Lib.frozen_of_heap h5 1
          clear h5 h6
          go_wp2_with fail
          go_ret
          exact ⟨rfl, G6.out⟩
        · rw [if_neg k3]
          have k3' : (x3.toList == s.toList) = false := by simpa using k3
          clear k3
          go_enter Try.func20, Try.ntmps20
          go_wp2_with fail
          have H1 := Lib.hid (show RdAt (w.alloc (.cells #[.string s, .int .i64 0] 79 (0, 0))) w.heap.size s 0 from rd_new w s)
          refine (KW.out _ _ H1.out).mono ?_
          rintro e w2 ⟨rfl, h5, h6⟩
          have G2 := Lib.hid (show Below w.heap.size w w2 from ((Below.refl _ _).alloc (Nat.le_refl _) _).trans (below_grown (Nat.le_refl _) (by simp) h6))
          have H2 := Lib.hid h5
          have c1 := h5.c1
          have f1 : w2.frozen? ⟨w.heap.size, 1, none⟩ = false := Lib.frozen_of_heap h5 1
          clear h5 h6
          go_wp2_with fail
          have H3 := Lib.hid (show RdAt (w2.setCell ⟨w.heap.size, 1, none⟩ (.int .i64 0)) w.heap.size s 0 from H2.out.move 0)
          refine (NA.out _ _ H3.out).mono ?_
          rintro e w4 ⟨rfl, h5, h6⟩
          have G4 := Lib.hid (show Below w.heap.size w w4 from (G2.out.setCell (p := ⟨w.heap.size, 1, none⟩) (Nat.le_refl _) _).trans (below_grown (Nat.le_refl _) (by simpa using G2.out.size) h6))
          have H4 := Lib.hid h5
          have c1 := h5.c1
          have f1 : w4.frozen? ⟨w.heap.size, 1, none⟩ = false := Lib.frozen_of_heap h5 1
          clear h5 h6
          go_wp2_with fail
          have H5 := Lib.hid (show RdAt (w4.setCell ⟨w.heap.size, 1, none⟩ (.int .i64 0)) w.heap.size s 0 from H4.out.move 0)
          refine (OP.out _ _ H5.out).mono ?_
          rintro e w6 ⟨rfl, h5, h6⟩
          have G6 := Lib.hid (show Below w.heap.size w w6 from (G4.out.setCell (p := ⟨w.heap.size, 1, none⟩) (Nat.le_refl _) _).trans (below_grown (Nat.le_refl _) (by simpa using G4.out.size) h6))
          have H6 := Lib.hid h5
          have c1 := h5.c1
          have f1 : w6.frozen? ⟨w.heap.size, 1, none⟩ = false := Lib.frozen_of_heap h5 1
          clear h5 h6
          go_wp2_with fail
          go_ret
          exact ⟨rfl, G6.out⟩
end Go.Proofs.Ytpfgidhchjcomaa
namespace Go.Proofs.Ytpfgidhchjcomaa
open Go.RowKit
set_option linter.unusedVariables false
def nameB (s : ByteArray) : Bool := decide (arM s = 0)
set_option maxRecDepth 100000 in
theorem tname_any (s : ByteArray) (w : World) :
    Calls Try.prog 19 #[.string s] w fun e w' => e = .returned (.bool (nameB s)) ∧ Below w.heap.size w w' := by
  have AR := Lib.hid (fun W => arity_any s W)
  unfold nameB
  generalize arM s = c at *
  go_enter Try.func19, Try.ntmps19
  go_wp2_with fail
  refine (AR.out _).mono ?_
  rintro e w1 ⟨rfl, hb⟩
  have HB := Lib.hid hb
  clear hb
  go_wp2_with fail
  go_ret
  exact ⟨ret_bool (by by_cases h : c = 0 <;> simp [h]), HB.out⟩
end Go.Proofs.Ytpfgidhchjcomaa
namespace Go.Proofs.Ytpfgidhchjcomaa
open Go.RowKit
set_option linter.unusedVariables false
/-- a function of a string that answers as p, whatever memory holds -/
def FnS (fn : FuncId) (p : ByteArray → Bool) : Prop := ∀ s W, Calls Try.prog fn #[.string s] W fun e w' => e = .returned (.bool (p s)) ∧ Below W.heap.size W w'
theorem StrsX.cell {x : Nat → Prop} {w : World} {a : Option Addr} {c : Nat} {l : List ByteArray} (h : StrsX x w (.slice a l.length c) l) (i : Nat) (s : ByteArray) (hi : l[i]? = some s) : ∃ b o, a = some ⟨b, o, none⟩ ∧ w.cell? ⟨b, o + i, none⟩ = some (.string s) := by
  obtain ⟨a', c', hv, -, -, -, h4, -⟩ := h
  injection hv with e1 e2 e3
  subst e1
  rcases h4 with h4 | ⟨b, o, ha, -, hc⟩
  · simp at h4; subst h4; simp at hi
  · refine ⟨b, o, ha, ?_⟩
    obtain ⟨hlt, rfl⟩ := List.getElem?_eq_some_iff.1 hi
    rw [hc i (by simpa using hlt)]
    simp [hi]
theorem any_take {α : Type} (p : α → Bool) (l : List α) (h : ∀ j y, j < l.length → l[j]? = some y → p y = false) : l.any p = false := by
  rw [List.any_eq_false]
  intro y hy
  obtain ⟨j, hj, rfl⟩ := List.getElem_of_mem hy
  rw [h j _ hj (List.getElem?_eq_getElem hj)]; simp
set_option maxRecDepth 100000 in
set_option maxHeartbeats 4000000 in
theorem indexS_any (fn : FuncId) (hfn : fn = 18 ∨ fn = 63) (p : ByteArray → Bool) (hp : FnS fn p) (x : Nat → Prop) (v : Value) (l : List ByteArray) (w : World) (h : StrsX x w v l) :
    Calls Try.prog 33 #[v, .func (.func fn) #[] #[]] w fun e w' => (∃ r : Int, e = .returned (.int .i64 r) ∧ decide (0 ≤ r) = l.any p) ∧ Below w.heap.size w w' := by
  obtain ⟨a, c, rfl, h1, h2, -, -⟩ := id h
  have HS := Lib.hid h
  have HP := Lib.hid hp
  have hn : l.length < 9223372036854775808 := by unfold maxLen at h2; omega
  clear h hp
  rcases hfn with rfl | rfl
  all_goals
    focus
      go_enter Try.func33, Try.ntmps33
      go_wp2_with fail
      go_loopg [5, 8] l.length (fun gg s5 s8 wr => ∃ i : Nat, gg = l.length - i ∧ i ≤ l.length ∧ s8 = .int .i64 (i : Int) ∧ (∀ j y, j < i → l[j]? = some y → p y = false) ∧ Below w.heap.size w wr)
      case atStart => exact ⟨0, rfl, by omega, rfl, fun j y h => absurd h (Nat.not_lt_zero _), Below.refl _ _⟩
      case round =>
        obtain ⟨i, hg, hi, rfl, hno, hb⟩ := hrel
        have HG := Lib.hid hg
        have HN := Lib.hid hno
        have HB := Lib.hid hb
        have HSI := Lib.hid (HS.out.later hb)
        clear hg hno hb
        by_cases hlt : i < l.length
        · have hl := List.getElem?_eq_getElem hlt
          obtain ⟨b, o, rfl, hc⟩ := HSI.out.cell i _ hl
          have HL := Lib.hid hl
          clear hl
          have PX := Lib.hid (fun W => HP.out l[i] W)
          cases hx : p l[i] with
          | true =>
            rw [hx] at PX
            have HA := Lib.hid (show l.any p = true from List.any_eq_true.2 ⟨l[i], List.getElem_mem hlt, hx⟩)
            clear hx
            generalize l[i] = s at *
            go_wp2_with fail
            refine (PX.out _).mono ?_
            rintro e w1 ⟨rfl, h5⟩
            have H5 := Lib.hid (HB.out.trans (h5.mono HB.out.size))
            clear h5
            go_wp2_with fail
            go_ret
            exact ⟨⟨i, rfl, by rw [HA.out]; simp⟩, H5.out⟩
          | false =>
            rw [hx] at PX
            have HX := Lib.hid hx
            clear hx
            have HM := Lib.hid (show ∀ j y, j < i + 1 → l[j]? = some y → p y = false from fun j y hj hy => by
              by_cases hji : j = i
              · subst hji
                rw [HL.out] at hy; injection hy with hy; subst hy; exact HX.out
              · exact HN.out j y (by omega) hy)
            clear HX HL
            generalize l[i] = s at *
            go_wp2_with fail
            refine (PX.out _).mono ?_
            rintro e w1 ⟨rfl, h5⟩
            have H5 := Lib.hid (HB.out.trans (h5.mono HB.out.size))
            clear h5
            go_wp2_with fail
            go_roundg (l.length - (i + 1))
            case measure => rw [HG.out]; omega
            case rel => exact ⟨i + 1, rfl, by omega, by go_num, HM.out, H5.out⟩
        · have : i = l.length := by omega
          have HA := Lib.hid (show l.any p = false from any_take p l (by rw [← this]; exact HN.out))
          go_wp2_with fail
          go_ret
          exact ⟨⟨-1, rfl, by rw [HA.out]; rfl⟩, HB.out⟩
set_option maxRecDepth 100000 in
theorem noname_check : FnS 18 fun s => !nameB s := by
  intro s w
  have NB := Lib.hid (fun W => tname_any s W)
  show Calls Try.prog 18 #[.string s] w fun e w' => e = .returned (.bool (!nameB s)) ∧ Below w.heap.size w w'
  generalize nameB s = c at *
  go_enter Try.func18, Try.ntmps18
  go_wp2_with fail
  refine (NB.out _).mono ?_
  rintro e w1 ⟨rfl, hb⟩
  have HB := Lib.hid hb
  clear hb
  go_wp2_with fail
  go_ret
  exact ⟨rfl, HB.out⟩
set_option maxRecDepth 100000 in
theorem noname_shape : FnS 63 fun s => !nameB s := by
  intro s w
  have NB := Lib.hid (fun W => tname_any s W)
  show Calls Try.prog 63 #[.string s] w fun e w' => e = .returned (.bool (!nameB s)) ∧ Below w.heap.size w w'
  generalize nameB s = c at *
  go_enter Try.func63, Try.ntmps63
  go_wp2_with fail
  refine (NB.out _).mono ?_
  rintro e w1 ⟨rfl, hb⟩
  have HB := Lib.hid hb
  clear hb
  go_wp2_with fail
  go_ret
  exact ⟨rfl, HB.out⟩
set_option maxRecDepth 100000 in
theorem containsS_any (fn : FuncId) (hfn : fn = 18 ∨ fn = 63) (x : Nat → Prop) (v : Value) (l : List ByteArray) (w : World) (h : StrsX x w v l) :
    Calls Try.prog 21 #[v, .func (.func fn) #[] #[]] w fun e w' => e = .returned (.bool (l.any fun s => !nameB s)) ∧ Below w.heap.size w w' := by
  have hp : FnS fn fun s => !nameB s := by
    rcases hfn with rfl | rfl
    · exact noname_check
    · exact noname_shape
  have IX := Lib.hid (indexS_any fn hfn _ hp x v l w h)
  clear h hp
  go_enter Try.func21, Try.ntmps21
  go_wp2_with fail
  refine IX.out.mono ?_
  rintro e w1 ⟨⟨r, rfl, hr⟩, hb⟩
  have HB := Lib.hid hb
  have HR := Lib.hid hr
  clear hb hr
  go_wp2_with fail
  go_ret
  exact ⟨ret_bool HR.out, HB.out⟩
end Go.Proofs.Ytpfgidhchjcomaa
namespace Go.Proofs.Ytpfgidhchjcomaa
open Go.RowKit
set_option linter.unusedVariables false
/-- a node, handed by value -/
def ndV (n : Nd) (kv nv : Value) : Value := .agg #[.int .i64 n.kind, .string n.name, .int .i64 n.num, kv, nv, .int .i64 n.at_]
def valB (n : Nd) : Bool := !decide (n.kind = 10) && !decide (n.kind = 11)
set_option maxRecDepth 100000 in
theorem value_any (n : Nd) (kv nv : Value) (w : World) :
    Calls Try.prog 65 #[ndV n kv nv] w fun e w' => e = .returned (.bool (valB n)) ∧ Below w.heap.size w w' := by
  obtain ⟨k, nm, nu, ks, ns, at_⟩ := n
  show Calls Try.prog 65 #[.agg #[.int .i64 k, .string nm, .int .i64 nu, kv, nv, .int .i64 at_]] w fun e w' => e = .returned (.bool (!decide (k = 10) && !decide (k = 11))) ∧ Below w.heap.size w w'
  by_cases h1 : k = 10
  · subst h1
    go_enter Try.func65, Try.ntmps65
    go_wp2_with fail
    go_ret
    exact ⟨rfl, (Below.refl _ _).alloc (Nat.le_refl _) _⟩
  · by_cases h2 : k = 11
    · subst h2
      go_enter Try.func65, Try.ntmps65
      go_wp2_with fail
      go_ret
      exact ⟨rfl, (Below.refl _ _).alloc (Nat.le_refl _) _⟩
    · have HF := Lib.hid (show (!decide (k = 10) && !decide (k = 11)) = true by simp [h1, h2])
      have e1 : (k != 10) = true := by simpa using h1
      have e2 : (k != 11) = true := by simpa using h2
      clear h1 h2
      rw [HF.out]
      go_enter Try.func65, Try.ntmps65
      go_wp2_with fail
      go_ret
      exact ⟨rfl, (Below.refl _ _).alloc (Nat.le_refl _) _⟩
def litB (n : Nd) : Bool := decide (n.kind = 1) || decide (n.kind = 2) || decide (n.kind = 3) || decide (n.kind = 4) || (decide (n.kind = 5) && (n.name.toList == [116, 114, 117, 101] || n.name.toList == [102, 97, 108, 115, 101] || n.name.toList == [110, 105, 108]))
set_option maxRecDepth 100000 in
theorem literal_any (n : Nd) (kv nv : Value) (w : World) :
    Calls Try.prog 64 #[ndV n kv nv] w fun e w' => e = .returned (.bool (litB n)) ∧ Below w.heap.size w w' := by
  obtain ⟨k, nm, nu, ks, ns, at_⟩ := n
  have HL : litB (.mk k nm nu ks ns at_) = (decide (k = 1) || decide (k = 2) || decide (k = 3) || decide (k = 4) || (decide (k = 5) && (nm.toList == [116, 114, 117, 101] || nm.toList == [102, 97, 108, 115, 101] || nm.toList == [110, 105, 108]))) := rfl
  rw [HL]
  clear HL
  show Calls Try.prog 64 #[.agg #[.int .i64 k, .string nm, .int .i64 nu, kv, nv, .int .i64 at_]] w _
  by_cases h : k = 1 ∨ k = 2 ∨ k = 3 ∨ k = 4
  · rcases h with rfl | rfl | rfl | rfl
    all_goals
      go_enter Try.func64, Try.ntmps64
      go_wp2_with fail
      go_ret
      exact ⟨rfl, (Below.refl _ _).alloc (Nat.le_refl _) _⟩
  · by_cases h5 : k = 5
    · subst h5
      clear h
      by_cases k1 : nm.toList = [116, 114, 117, 101]
      · have HF := Lib.hid (show (decide ((5:Int) = 1) || decide ((5:Int) = 2) || decide ((5:Int) = 3) || decide ((5:Int) = 4) || (decide ((5:Int) = 5) && (nm.toList == [116, 114, 117, 101] || nm.toList == [102, 97, 108, 115, 101] || nm.toList == [110, 105, 108]))) = true by simp [k1])
        rw [HF.out]
        go_enter Try.func64, Try.ntmps64
        go_wp2_with fail
        go_ret
        exact ⟨rfl, (Below.refl _ _).alloc (Nat.le_refl _) _⟩
      · have k1f : (nm.toList == [116, 114, 117, 101]) = false := by simpa using k1
        by_cases k2 : nm.toList = [102, 97, 108, 115, 101]
        · have HF := Lib.hid (show (decide ((5:Int) = 1) || decide ((5:Int) = 2) || decide ((5:Int) = 3) || decide ((5:Int) = 4) || (decide ((5:Int) = 5) && (nm.toList == [116, 114, 117, 101] || nm.toList == [102, 97, 108, 115, 101] || nm.toList == [110, 105, 108]))) = true by simp [k2])
          rw [HF.out]
          go_enter Try.func64, Try.ntmps64
          go_wp2_with fail
          go_ret
          exact ⟨rfl, (Below.refl _ _).alloc (Nat.le_refl _) _⟩
        · have k2f : (nm.toList == [102, 97, 108, 115, 101]) = false := by simpa using k2
          have HF := Lib.hid (show (decide ((5:Int) = 1) || decide ((5:Int) = 2) || decide ((5:Int) = 3) || decide ((5:Int) = 4) || (decide ((5:Int) = 5) && (nm.toList == [116, 114, 117, 101] || nm.toList == [102, 97, 108, 115, 101] || nm.toList == [110, 105, 108]))) = (nm.toList == [110, 105, 108]) by rw [k1f, k2f]; simp)
          rw [HF.out]
          go_enter Try.func64, Try.ntmps64
          go_wp2_with fail
          go_ret
          exact ⟨rfl, (Below.refl _ _).alloc (Nat.le_refl _) _⟩
    · have h1 : ¬ k = 1 := fun e => h (Or.inl e)
      have h2 : ¬ k = 2 := fun e => h (Or.inr (Or.inl e))
      have h3 : ¬ k = 3 := fun e => h (Or.inr (Or.inr (Or.inl e)))
      have h4 : ¬ k = 4 := fun e => h (Or.inr (Or.inr (Or.inr e)))
      have HF := Lib.hid (show (decide (k = 1) || decide (k = 2) || decide (k = 3) || decide (k = 4) || (decide (k = 5) && (nm.toList == [116, 114, 117, 101] || nm.toList == [102, 97, 108, 115, 101] || nm.toList == [110, 105, 108]))) = false by simp [h1, h2, h3, h4, h5])
      have e1 : (k == 1) = false := by simpa using h1
      have e2 : (k == 2) = false := by simpa using h2
      have e3 : (k == 3) = false := by simpa using h3
      have e4 : (k == 4) = false := by simpa using h4
      have e5 : (k == 5) = false := by simpa using h5
      clear h h1 h2 h3 h4 h5
      rw [HF.out]
      go_enter Try.func64, Try.ntmps64
      go_wp2_with fail
      go_ret
      exact ⟨rfl, (Below.refl _ _).alloc (Nat.le_refl _) _⟩
end Go.Proofs.Ytpfgidhchjcomaa
