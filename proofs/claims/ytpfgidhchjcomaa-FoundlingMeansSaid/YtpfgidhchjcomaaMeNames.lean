/- Names are declared, one after another. -/
import Derived.Test.YtpfgidhchjcomaaMeDeclB
namespace Go.Proofs.Ytpfgidhchjcomaa
open Go.RowKit
set_option linter.unusedVariables false
def declAll (F : List ByteArray) : List Kn → Nat → List (ByteArray × Int) → Option (List Kn × Nat)
  | kn, sl, [] => some (kn, sl)
  | kn, sl, x :: l => if declBad F kn sl x.1 x.2 = true then none else declAll F (kn ++ [⟨x.1, sl, x.2 == 0⟩]) (sl + 1) l
theorem declAll_append (F : List ByteArray) : ∀ (l r : List (ByteArray × Int)) (kn : List Kn) (sl : Nat), declAll F kn sl (l ++ r) = (declAll F kn sl l).bind fun q => declAll F q.1 q.2 r
  | [], r, kn, sl => rfl
  | x :: l, r, kn, sl => by
    show (if declBad F kn sl x.1 x.2 = true then none else declAll F (kn ++ [⟨x.1, sl, x.2 == 0⟩]) (sl + 1) (l ++ r)) = (if declBad F kn sl x.1 x.2 = true then none else declAll F (kn ++ [⟨x.1, sl, x.2 == 0⟩]) (sl + 1) l).bind fun q => declAll F q.1 q.2 r
    split
    · rfl
    · exact declAll_append F l r _ _
def namesP (l : List ByteArray) : List (ByteArray × Int) := (List.range l.length).map fun (i : Nat) => ((l[i]?).getD ⟨#[]⟩, (i : Int) + 1)
def namesV (l : List ByteArray) : List (ByteArray × Int) := l.map fun s => (s, 0)
theorem namesP_take (l : List ByteArray) (i : Nat) (hi : i < l.length) : (namesP l).take (i + 1) = (namesP l).take i ++ [(l[i], (i : Int) + 1)] := by
  unfold namesP
  rw [List.take_add_one, List.getElem?_map, List.getElem?_range hi]
  simp [List.getElem?_eq_getElem hi]
theorem namesP_len (l : List ByteArray) : (namesP l).length = l.length := by unfold namesP; simp
theorem namesV_take (l : List ByteArray) (i : Nat) (hi : i < l.length) : (namesV l).take (i + 1) = (namesV l).take i ++ [(l[i], 0)] := by
  unfold namesV
  rw [List.take_add_one, List.getElem?_map, List.getElem?_eq_getElem hi]
  rfl
theorem namesV_len (l : List ByteArray) : (namesV l).length = l.length := by unfold namesV; simp
def NmPost (B : Nat) (w : World) (p : Nat) (at_ : Int) (fv gv : Value) (F G : List ByteArray) (r : Option (List Kn × Nat)) (e : Ending) (w' : World) : Prop :=
  match r with
  | none => Faulted at_ e ∧ Below B w w'
  | some q => e = .returned (.tuple #[]) ∧ RsAt B w' p q.1 q.2 fv gv F G ∧ Kt p w w' ∧ Below B w w'
theorem NmPost.no {B : Nat} {w : World} {p : Nat} {at_ : Int} {fv gv : Value} {F G : List ByteArray} {r : Option (List Kn × Nat)} {e : Ending} {w' : World} (hr : r = none) (h1 : Faulted at_ e) (h2 : Below B w w') : NmPost B w p at_ fv gv F G r e w' := by subst hr; exact ⟨h1, h2⟩
theorem NmPost.yes {B : Nat} {w : World} {p : Nat} {at_ : Int} {fv gv : Value} {F G : List ByteArray} {r : Option (List Kn × Nat)} {w' : World} {q : List Kn × Nat} (hr : r = some q) (h1 : RsAt B w' p q.1 q.2 fv gv F G) (h2 : Kt p w w') (h3 : Below B w w') : NmPost B w p at_ fv gv F G r (.returned (.tuple #[])) w' := by subst hr; exact ⟨rfl, h1, h2, h3⟩
set_option maxRecDepth 100000 in
set_option maxHeartbeats 4000000 in
theorem names_any (B : Nat) (p : Nat) (kn : List Kn) (slots : Nat) (fv gv : Value) (F G : List ByteArray) (pv tv : Value) (ps ts : List ByteArray) (at_ : Int) (w : World) (h : RsAt B w p kn slots fv gv F G) (hp : StrsX (· < B) w pv ps) (ht : StrsX (· < B) w tv ts) :
    Calls Try.prog 12 #[.pointer (some ⟨p, 0, none⟩), pv, tv, .int .i64 at_] w fun e w' => NmPost B w p at_ fv gv F G (declAll F kn slots (namesP ps ++ namesV ts)) e w' := by
  obtain ⟨pa, pc, rfl, p1, p2, -⟩ := id hp
  obtain ⟨ta, tc, rfl, t1, t2, -⟩ := id ht
  have hpn : ps.length ≤ 9223372036854775807 := Nat.le_trans p1 p2
  have htn : ts.length ≤ 9223372036854775807 := Nat.le_trans t1 t2
  have HP := Lib.hid hp
  have HT := Lib.hid ht
  have HR0 := Lib.hid h
  have HDA := Lib.hid (fun l r => declAll_append F l r kn slots)
  have HPT := Lib.hid (fun i hi => namesP_take ps i hi)
  have HVT := Lib.hid (fun i hi => namesV_take ts i hi)
  have HPL := Lib.hid (show (namesP ps).take ps.length = namesP ps from List.take_of_length_le (by rw [namesP_len]; omega))
  have HVL := Lib.hid (show (namesV ts).take ts.length = namesV ts from List.take_of_length_le (by rw [namesV_len]; omega))
  have HPD := Lib.hid (fun i => (List.take_append_drop i (namesP ps)).symm)
  have HVD := Lib.hid (fun i => (List.take_append_drop i (namesV ts)).symm)
  clear hp ht h
  go_enter Try.func12, Try.ntmps12
  go_wp2_with fail
  go_loopg [8, 9, 14] ps.length (fun gg s8 s9 s14 wr => ∃ (i : Nat) (q : List Kn × Nat), gg = ps.length - i ∧ i ≤ ps.length ∧ s14 = .int .i64 (i : Int) ∧ declAll F kn slots ((namesP ps).take i) = some q ∧ RsAt B wr p q.1 q.2 fv gv F G ∧ Kt p w wr ∧ Below B w wr)
  case atStart => exact ⟨0, (kn, slots), rfl, by omega, rfl, rfl, HR0.out, Kt.refl _ _, Below.refl _ _⟩
  case round =>
    obtain ⟨i, ⟨kq, sq⟩, hg, hi, rfl, hq, hr, hkt, hb⟩ := hrel
    have HGG := Lib.hid hg
    have HQ := Lib.hid hq
    have HR := Lib.hid hr
    have HK := Lib.hid hkt
    have HB := Lib.hid hb
    clear hg hq hr hkt hb
    by_cases hlt' : i < ps.length
    · have hl := List.getElem?_eq_getElem hlt'
      obtain ⟨b, o, rfl, hc⟩ := StrsX.cell (show StrsX (· < B) wr (.slice pa ps.length pc) ps from HP.out.keep fun k _ hk => HB.out.block k hk) i _ hl
      obtain ⟨_, _, _, -, -, -, -, hsz⟩ := id HP.out
      have hs := hsz _ (List.getElem_mem hlt')
      have HS := Lib.hid (HPT.out i hlt')
      have wk : IntKind.i64.wrap ((i : Int) + 1) = (i : Int) + 1 := IntWalk.i64_in _ (by omega)
      cases hx : declBad F kq sq ps[i] ((i : Int) + 1) with
      | true =>
        have PX := Lib.hid (declare_no B p kq sq fv gv F G ps[i] ((i : Int) + 1) at_ wr HR.out hs (by have := HR.out.nS; omega) hx)
        have HN := Lib.hid (show declAll F kn slots (namesP ps ++ namesV ts) = none by
          have e1 : namesP ps = (namesP ps).take (i + 1) ++ (namesP ps).drop (i + 1) := HPD.out (i + 1)
          rw [e1, HS.out, List.append_assoc, List.append_assoc, HDA.out, HQ.out]
          show (if declBad F kq sq ps[i] ((i : Int) + 1) = true then none else _) = none
          rw [if_pos hx])
        clear hx hl hsz
        generalize ps[i] = s at *
        go_wp2_with fail
        refine PX.out.mono ?_
        rintro e w5 ⟨⟨e', hne, rfl⟩, h5⟩
        have H5 := Lib.hid (show Below B w w5 from HB.out.trans ⟨h5.os, h5.tape, h5.output, h5.size, fun k hk => h5.block k (by have := HB.out.size; have := HR.out.pB; have := HR.out.get.1; omega)⟩)
        clear h5
        go_wp2_with fail
        exact ⟨rfl, NmPost.no HN.out ⟨e', hne, rfl⟩ H5.out⟩
      | false =>
        have PX := Lib.hid (declare_yes B p kq sq fv gv F G ps[i] ((i : Int) + 1) at_ wr HR.out hs hx)
        have HN := Lib.hid (show declAll F kn slots ((namesP ps).take (i + 1)) = some (kq ++ [⟨ps[i], sq, ((i : Int) + 1) == 0⟩], sq + 1) by
          rw [HS.out, HDA.out, HQ.out]
          show (if declBad F kq sq ps[i] ((i : Int) + 1) = true then none else _) = _
          rw [if_neg (by rw [hx]; simp)]
          rfl)
        clear hx hl hsz
        generalize ps[i] = s at *
        go_wp2_with fail
        refine PX.out.mono ?_
        rintro e w5 ⟨rfl, h5, h6, h7⟩
        have H5 := Lib.hid h5
        have H6 := Lib.hid (HK.out.trans h6)
        have H7 := Lib.hid (HB.out.trans h7)
        clear h5 h6 h7
        go_wp2_with fail
        go_roundg (ps.length - (i + 1))
        case measure => rw [HGG.out]; omega
        case rel => exact ⟨i + 1, _, rfl, by omega, by go_num, HN.out, H5.out, H6.out, H7.out⟩
    · have : i = ps.length := by omega
      subst this
      rw [HPL.out] at HQ
      go_wp2_with fail
      have HSZ : Hid (∀ s, s ∈ ts → s.size ≤ maxLen) := Lib.hid (by
        obtain ⟨_, _, _, -, -, -, -, hsz⟩ := id HT.out
        exact hsz)
      go_loopg [11, 28] ts.length (fun gg s11 s28 wz => ∃ (i : Nat) (q : List Kn × Nat), gg = ts.length - i ∧ i ≤ ts.length ∧ s28 = .int .i64 (i : Int) ∧ declAll F kn slots (namesP ps ++ (namesV ts).take i) = some q ∧ RsAt B wz p q.1 q.2 fv gv F G ∧ Kt p w wz ∧ Below B w wz)
      case atStart => exact ⟨0, (kq, sq), rfl, by omega, rfl, by rw [List.take_zero, List.append_nil]; exact HQ.out, HR.out, HK.out, HB.out⟩
      case round =>
        obtain ⟨i, ⟨kz, sz⟩, hg, hi, rfl, hq, hr, hkt, hb⟩ := hrel
        have HGY := Lib.hid hg
        have HQ2 := Lib.hid hq
        have HR2 := Lib.hid hr
        have HK2 := Lib.hid hkt
        have HB2 := Lib.hid hb
        clear hg hq hr hkt hb
        by_cases hlt' : i < ts.length
        · have hl := List.getElem?_eq_getElem hlt'
          obtain ⟨b, o, rfl, hc⟩ := StrsX.cell (show StrsX (· < B) wr (.slice ta ts.length tc) ts from HT.out.keep fun k _ hk => HB2.out.block k hk) i _ hl
          have hs := HSZ.out _ (List.getElem_mem hlt')
          have HS := Lib.hid (HVT.out i hlt')
          cases hx : declBad F kz sz ts[i] 0 with
          | true =>
            have PX := Lib.hid (declare_no B p kz sz fv gv F G ts[i] 0 at_ wr HR2.out hs (by have := HR2.out.nS; omega) hx)
            have HN := Lib.hid (show declAll F kn slots (namesP ps ++ namesV ts) = none by
              have e1 : namesV ts = (namesV ts).take (i + 1) ++ (namesV ts).drop (i + 1) := HVD.out (i + 1)
              rw [e1, HS.out, List.append_assoc, ← List.append_assoc, HDA.out, HQ2.out]
              show (if declBad F kz sz ts[i] 0 = true then none else _) = none
              rw [if_pos hx])
            clear hx hl
            generalize ts[i] = s at *
            go_wp2_with fail
            refine PX.out.mono ?_
            rintro e w5 ⟨⟨e', hne, rfl⟩, h5⟩
            have H5 := Lib.hid (show Below B w w5 from HB2.out.trans ⟨h5.os, h5.tape, h5.output, h5.size, fun k hk => h5.block k (by have := HB2.out.size; have := HR2.out.pB; have := HR2.out.get.1; omega)⟩)
            clear h5
            go_wp2_with fail
            exact ⟨rfl, NmPost.no HN.out ⟨e', hne, rfl⟩ H5.out⟩
          | false =>
            have PX := Lib.hid (declare_yes B p kz sz fv gv F G ts[i] 0 at_ wr HR2.out hs hx)
            have HN := Lib.hid (show declAll F kn slots (namesP ps ++ (namesV ts).take (i + 1)) = some (kz ++ [⟨ts[i], sz, (0 : Int) == 0⟩], sz + 1) by
              rw [HS.out, ← List.append_assoc, HDA.out, HQ2.out]
              show (if declBad F kz sz ts[i] 0 = true then none else _) = _
              rw [if_neg (by rw [hx]; simp)]
              rfl)
            clear hx hl
            generalize ts[i] = s at *
            go_wp2_with fail
            refine PX.out.mono ?_
            rintro e w5 ⟨rfl, h5, h6, h7⟩
            have H5 := Lib.hid h5
            have H6 := Lib.hid (HK2.out.trans h6)
            have H7 := Lib.hid (HB2.out.trans h7)
            clear h5 h6 h7
            go_wp2_with fail
            go_roundg (ts.length - (i + 1))
            case measure => rw [HGY.out]; omega
            case rel => exact ⟨i + 1, _, rfl, by omega, by go_num, HN.out, H5.out, H6.out, H7.out⟩
        · have : i = ts.length := by omega
          subst this
          rw [HVL.out] at HQ2
          go_wp2_with fail
          go_end0
          exact NmPost.yes HQ2.out HR2.out HK2.out HB2.out
end Go.Proofs.Ytpfgidhchjcomaa
