/- A node and all within it are as they may be. Fits, by how deep a node is. -/
import Derived.Test.YtpfgidhchjcomaaMeKids
namespace Go.Proofs.Ytpfgidhchjcomaa
open Go.RowKit
set_option linter.unusedVariables false
theorem bcell {W w1 : World} (hb : Below W.heap.size W w1) : (∀ b o, b < W.heap.size → w1.cell? ⟨b, o, none⟩ = W.cell? ⟨b, o, none⟩) ∧ (∀ b o, b < W.heap.size → w1.frozen? ⟨b, o, none⟩ = W.frozen? ⟨b, o, none⟩) :=
  ⟨fun b o h => hb.cell (p := ⟨b, o, none⟩) h, fun b o h => hb.frozen (p := ⟨b, o, none⟩) h⟩
def kidsAll (q : Nd → Bool → Bool) (n : Nd) : Bool := (List.range n.kids.length).all fun i => match n.kids[i]? with | some k => q k (decide (n.kind = 8) && decide (0 < i)) | none => true
theorem kidsAll_yes {q : Nd → Bool → Bool} {n : Nd} (h : ∀ j y, j < n.kids.length → n.kids[j]? = some y → q y (decide (n.kind = 8) && decide (0 < j)) = true) : kidsAll q n = true := by
  unfold kidsAll
  rw [List.all_eq_true]
  intro i hi
  have hi' : i < n.kids.length := List.mem_range.1 hi
  rw [List.getElem?_eq_getElem hi']
  exact h i _ hi' (List.getElem?_eq_getElem hi')
theorem kidsAll_no {q : Nd → Bool → Bool} {n : Nd} {i : Nat} {y : Nd} (hn : n.kids[i]? = some y) (h : q y (decide (n.kind = 8) && decide (0 < i)) = false) : kidsAll q n = false := by
  have hi : i < n.kids.length := (List.getElem?_eq_some_iff.1 hn).1
  unfold kidsAll
  rw [List.all_eq_false]
  exact ⟨i, List.mem_range.2 hi, by rw [hn]; simp [h]⟩
def fitB1 (q : Nd → Bool → Bool) (n : Nd) (may : Bool) : Bool := shapeB n && kidsB n && (may || !holB n) && kidsAll q n
theorem shape_kids7 {n : Nd} (h : shapeB n = true) (h7 : n.kind = 7) : n.kids ≠ [] := by
  intro e
  unfold shapeB bareB at h
  simp [h7, e] at h
  omega
theorem shape_kids8 {n : Nd} (h : shapeB n = true) (h8 : n.kind = 8) : n.kids ≠ [] := by
  intro e
  unfold shapeB bareB at h
  simp [h8, e] at h
set_option maxRecDepth 100000 in
set_option maxHeartbeats 8000000 in
theorem fits_step (x : Nat → Prop) (d : Nat) (n : Nd) (kv nv : Value) (may : Bool) (w : World) (hk : NodesX x (d + 1) w kv n.kids) (hs : StrsX x w nv n.names) (q : Nd → Bool → Bool)
    (H : ∀ k kv' nv' b W, NodesX x d W kv' k.kids → StrsX x W nv' k.names → NdOk k → k ∈ n.kids → Calls Try.prog 25 #[ndV k kv' nv', .bool b] W fun e w' => e = .returned (.bool (q k b)) ∧ Below W.heap.size W w') :
    Calls Try.prog 25 #[ndV n kv nv, .bool may] w fun e w' => e = .returned (.bool (fitB1 q n may)) ∧ Below w.heap.size w w' := by
  have SA := Lib.hid (fun W (hb : Below w.heap.size w W) => shape_any x (d + 1) n kv nv W (hk.later hb) (hs.later hb))
  have KA := Lib.hid (fun hx W (hb : Below w.heap.size w W) => kids_any x d n kv nv W (hk.later hb) (shape_kids7 hx) (shape_kids8 hx))
  have HO := Lib.hid (fun W (hb : Below w.heap.size w W) => holed_any x (d + 1) n kv nv W (hk.later hb))
  have HH := Lib.hid H
  have HN := Lib.hid (show fitB1 q n may = (shapeB n && kidsB n && (may || !holB n) && kidsAll q n) from rfl)
  have HY := Lib.hid (fun h => kidsAll_yes (q := q) (n := n) h)
  have HZ := Lib.hid (fun i y hn h => kidsAll_no (q := q) (n := n) (i := i) (y := y) hn h)
  have HK := Lib.hid hk
  obtain ⟨ka, kc, rfl, h1, h2, -⟩ := hk.shape
  obtain ⟨na, nc, rfl, -⟩ := (show StrsX x w nv n.names from hs)
  have hn : n.kids.length ≤ 9223372036854775807 := Nat.le_trans h1 h2
  clear hk hs H
  obtain ⟨k, nm, nu, ks, ns, at_⟩ := n
  replace h1 : ks.length ≤ kc := h1
  replace hn : ks.length ≤ 9223372036854775807 := hn
  replace SA : Hid (∀ W, Below w.heap.size w W → Calls Try.prog 36 #[.agg #[.int .i64 k, .string nm, .int .i64 nu, .slice ka ks.length kc, .slice na ns.length nc, .int .i64 at_]] W fun e w' => e = .returned (.bool (shapeB (.mk k nm nu ks ns at_))) ∧ Below W.heap.size W w') := SA
  replace KA : Hid (shapeB (.mk k nm nu ks ns at_) = true → ∀ W, Below w.heap.size w W → Calls Try.prog 37 #[.agg #[.int .i64 k, .string nm, .int .i64 nu, .slice ka ks.length kc, .slice na ns.length nc, .int .i64 at_]] W fun e w' => e = .returned (.bool (kidsB (.mk k nm nu ks ns at_))) ∧ Below W.heap.size W w') := KA
  replace HO : Hid (∀ W, Below w.heap.size w W → Calls Try.prog 38 #[.agg #[.int .i64 k, .string nm, .int .i64 nu, .slice ka ks.length kc, .slice na ns.length nc, .int .i64 at_]] W fun e w' => e = .returned (.bool (holB (.mk k nm nu ks ns at_))) ∧ Below W.heap.size W w') := HO
  replace HH : Hid (∀ k kv' nv' b W, NodesX x d W kv' k.kids → StrsX x W nv' k.names → NdOk k → k ∈ ks → Calls Try.prog 25 #[.agg #[.int .i64 k.kind, .string k.name, .int .i64 k.num, kv', nv', .int .i64 k.at_], .bool b] W fun e w' => e = .returned (.bool (q k b)) ∧ Below W.heap.size W w') := HH
  replace HK : Hid (NodesX x (d + 1) w (.slice ka ks.length kc) ks) := HK
  replace HY : Hid ((∀ j y, j < ks.length → ks[j]? = some y → q y (decide (k = 8) && decide (0 < j)) = true) → kidsAll q (.mk k nm nu ks ns at_) = true) := HY
  replace HZ : Hid (∀ i y, ks[i]? = some y → q y (decide (k = 8) && decide (0 < i)) = false → kidsAll q (.mk k nm nu ks ns at_) = false) := HZ
  show Calls Try.prog 25 #[.agg #[.int .i64 k, .string nm, .int .i64 nu, .slice ka ks.length kc, .slice na ns.length nc, .int .i64 at_], .bool may] w fun e w' => e = .returned (.bool (fitB1 q (.mk k nm nu ks ns at_) may)) ∧ Below w.heap.size w w'
  rw [HN.out]
  clear HN
  generalize shapeB (.mk k nm nu ks ns at_) = rs at *
  generalize kidsB (.mk k nm nu ks ns at_) = rk at *
  generalize holB (.mk k nm nu ks ns at_) = rh at *
  generalize kidsAll q (.mk k nm nu ks ns at_) = ra at *
  cases rs
  · go_enter Try.func25, Try.ntmps25
    go_wp2_with fail
    refine (SA.out _ ((Below.refl _ _).alloc (Nat.le_refl _) _)).mono ?_
    rintro e w1 ⟨rfl, hb⟩
    have HB := Lib.hid (show Below w.heap.size w w1 from ((Below.refl _ _).alloc (Nat.le_refl _) _).trans (hb.mono (by simp)))
    clear hb
    go_wp2_with fail
    go_ret
    exact ⟨rfl, HB.out⟩
  replace KA := Lib.hid (KA.out rfl)
  cases rk
  · go_enter Try.func25, Try.ntmps25
    go_wp2_with fail
    refine (SA.out _ ((Below.refl _ _).alloc (Nat.le_refl _) _)).mono ?_
    rintro e w1 ⟨rfl, hg⟩
    have HB := Lib.hid (show Below w.heap.size w w1 from ((Below.refl _ _).alloc (Nat.le_refl _) _).trans (hg.mono (by simp)))
    obtain ⟨hc, hf⟩ := bcell hg; have hs := hg.size; (try simp at hs); have hs0 : w.heap.size < w1.heap.size := (by omega); have HG := Lib.hid hg; clear hg
    go_wp2_with fail
    refine (KA.out _ HB.out).mono ?_
    rintro e w2 ⟨rfl, hg⟩
    have HB2 := Lib.hid (HB.out.trans (hg.mono HB.out.size))
    clear hg
    go_wp2_with fail
    go_ret
    exact ⟨rfl, HB2.out⟩
  by_cases hm : (may || !rh) = false
  · obtain ⟨rfl, rfl⟩ : may = false ∧ rh = true := by cases may <;> cases rh <;> simp_all
    clear hm
    go_enter Try.func25, Try.ntmps25
    go_wp2_with fail
    refine (SA.out _ ((Below.refl _ _).alloc (Nat.le_refl _) _)).mono ?_
    rintro e w1 ⟨rfl, hg⟩
    have HB := Lib.hid (show Below w.heap.size w w1 from ((Below.refl _ _).alloc (Nat.le_refl _) _).trans (hg.mono (by simp)))
    obtain ⟨hc, hf⟩ := bcell hg; have hs := hg.size; (try simp at hs); have hs0 : w.heap.size < w1.heap.size := (by omega); have HG := Lib.hid hg; clear hg
    go_wp2_with fail
    refine (KA.out _ HB.out).mono ?_
    rintro e w2 ⟨rfl, hg⟩
    have HB2 := Lib.hid (HB.out.trans (hg.mono HB.out.size))
    have hgs := Lib.hid hg.size
    obtain ⟨hc, hf⟩ := bcell hg; have hs := hg.size; (try simp at hs); have HG := Lib.hid hg; clear hg
    have hs2 : w.heap.size < w2.heap.size := by have := hgs.out; omega
    go_wp2_with fail
    refine (HO.out _ HB2.out).mono ?_
    rintro e w3 ⟨rfl, hg⟩
    have HB3 := Lib.hid (HB2.out.trans (hg.mono HB2.out.size))
    clear hg
    go_wp2_with fail
    go_ret
    exact ⟨rfl, HB3.out⟩
  replace hm : (may || !rh) = true := by revert hm; cases (may || !rh) <;> simp
  have HR := Lib.hid (show (true && true && (may || !rh) && ra) = ra by rw [hm]; simp)
  rw [HR.out]
  clear HR
  by_cases k8 : k = 8
  · subst k8
    replace HY : Hid ((∀ (j : Nat) y, j < ks.length → ks[j]? = some y → q y (decide (0 < j)) = true) → ra = true) := Lib.hid fun h => HY.out fun j y h1 h2 => by rw [show (decide ((8:Int) = 8) && decide (0 < j)) = decide (0 < j) by simp]; exact h j y h1 h2
    replace HZ : Hid (∀ (i : Nat) y, ks[i]? = some y → q y (decide (0 < i)) = false → ra = false) := Lib.hid fun i y h1 h2 => HZ.out i y h1 (by rw [show (decide ((8:Int) = 8) && decide (0 < i)) = decide (0 < i) by simp]; exact h2)
    cases rh
    · clear hm
      go_enter Try.func25, Try.ntmps25
      go_wp2_with fail
      refine (SA.out _ ((Below.refl _ _).alloc (Nat.le_refl _) _)).mono ?_
      rintro e w1 ⟨rfl, hg⟩
      have k1 : w1.cell? ⟨w.heap.size, 0, none⟩ = some (.int .i64 8) := (hg.cell (p := ⟨w.heap.size, 0, none⟩) (by simp)).trans (by simp)
      have HB := Lib.hid (show Below w.heap.size w w1 from ((Below.refl _ _).alloc (Nat.le_refl _) _).trans (hg.mono (by simp)))
      obtain ⟨hc, hf⟩ := bcell hg; have hs := hg.size; (try simp at hs); have hs0 : w.heap.size < w1.heap.size := (by omega); have HG := Lib.hid hg; clear hg
      go_wp2_with fail
      refine (KA.out _ HB.out).mono ?_
      rintro e w2 ⟨rfl, hg⟩
      have k2 : w2.cell? ⟨w.heap.size, 0, none⟩ = some (.int .i64 8) := (hg.cell (p := ⟨w.heap.size, 0, none⟩) (by assumption)).trans k1
      have HB2 := Lib.hid (HB.out.trans (hg.mono HB.out.size))
      have hgs := Lib.hid hg.size
      obtain ⟨hc, hf⟩ := bcell hg; have hs := hg.size; (try simp at hs); have HG := Lib.hid hg; clear hg
      have hs2 : w.heap.size < w2.heap.size := by have := hgs.out; omega
      go_wp2_with fail
      refine (HO.out _ HB2.out).mono ?_
      rintro e w3 ⟨rfl, hg⟩
      have k3 : w3.cell? ⟨w.heap.size, 0, none⟩ = some (.int .i64 8) := (hg.cell (p := ⟨w.heap.size, 0, none⟩) (by assumption)).trans k2
      have HB3 := Lib.hid (HB2.out.trans (hg.mono HB2.out.size))
      have hgs := Lib.hid hg.size
      obtain ⟨hc, hf⟩ := bcell hg; have hs := hg.size; (try simp at hs); have HG := Lib.hid hg; clear hg
      have hs3 : w.heap.size < w3.heap.size := by have := hgs.out; omega
      have HSI := Lib.hid (HK.out.later HB3.out)
      go_wp2_with fail
      go_loopg [5, 6, 26] ks.length (fun gg s5 s6 s26 wr => ∃ i : Nat, gg = ks.length - i ∧ i ≤ ks.length ∧ s26 = .int .i64 (i : Int) ∧ (∀ j y, j < i → ks[j]? = some y → q y (decide (0 < j)) = true) ∧ Below w3.heap.size w3 wr)
      case atStart => exact ⟨0, rfl, by omega, rfl, fun j y h => absurd h (Nat.not_lt_zero _), Below.refl _ _⟩
      case round =>
        obtain ⟨i, hg, hi, rfl, hno, hg4⟩ := hrel
        have HGG := Lib.hid hg
        have HN := Lib.hid hno
        have HBR := Lib.hid hg4
        have HBW := Lib.hid (HB3.out.trans (hg4.mono HB3.out.size))
        have HSR := Lib.hid (HK.out.later HBW.out)
        obtain ⟨hcr, hfr⟩ := bcell hg4
        have hsr := hg4.size
        have kr : wr.cell? ⟨w.heap.size, 0, none⟩ = some (.int .i64 8) := (hg4.cell (p := ⟨w.heap.size, 0, none⟩) (by assumption)).trans k3
        have hlr : w.heap.size < wr.heap.size := Nat.lt_of_lt_of_le hs3 hsr
        clear hg hno hg4
        by_cases hlt' : i < ks.length
        · have hl := List.getElem?_eq_getElem hlt'
          obtain ⟨b, o, kv, nv, rfl, c0, c1, c2, c3, c4, c5, hk, hs, ho⟩ := HSR.out.at i _ hl
          obtain ⟨ka', kc', rfl, -⟩ := hk.shape
          obtain ⟨na', nc', rfl, -⟩ := id hs
          have hW : Below w.heap.size w (wr.alloc (.cells #[.int .i64 ks[i].kind, .string ks[i].name, .int .i64 ks[i].num, .slice ka' ks[i].kids.length kc', .slice na' ks[i].names.length nc', .int .i64 ks[i].at_] 30)) := HBW.out.alloc HBW.out.size _
          have PX := Lib.hid (fun bb => HH.out ks[i] _ _ bb (wr.alloc (.cells #[.int .i64 ks[i].kind, .string ks[i].name, .int .i64 ks[i].num, .slice ka' ks[i].kids.length kc', .slice na' ks[i].names.length nc', .int .i64 ks[i].at_] 30)) (hk.later ((Below.refl _ _).alloc (Nat.le_refl _) _)) (hs.later ((Below.refl _ _).alloc (Nat.le_refl _) _)) ho (List.getElem_mem hlt'))
          have HL := Lib.hid hl
          clear hl hk hs ho hW
          cases hx : q ks[i] (decide (0 < i)) with
          | true =>
            have HM := Lib.hid (show ∀ j y, j < i + 1 → ks[j]? = some y → q y (decide (0 < j)) = true from fun j y hj hy => by
              by_cases hji : j = i
              · subst hji
                rw [HL.out] at hy; injection hy with hy; subst hy; exact hx
              · exact HN.out j y (by omega) hy)
            replace PX := PX.out (decide (0 < i))
            rw [hx] at PX
            replace PX := Lib.hid PX
            clear HL hx
            generalize ks[i] = s at *
            go_wp2_with fail
            refine PX.out.mono ?_
            rintro e w5 ⟨rfl, h5⟩
            have H5a : Below wr.heap.size wr w5 := ((Below.refl _ _).alloc (Nat.le_refl _) _).trans (h5.mono (by simp))
            have H5 := Lib.hid (HBR.out.trans (H5a.mono HBR.out.size))
            clear H5a
            clear h5
            go_wp2_with fail
            go_roundg (ks.length - (i + 1))
            case measure => rw [HGG.out]; omega
            case rel => exact ⟨i + 1, rfl, by omega, by go_num, HM.out, H5.out⟩
          | false =>
            have HA := Lib.hid (show ra = false from HZ.out i _ HL.out hx)
            replace PX := PX.out (decide (0 < i))
            rw [hx] at PX
            replace PX := Lib.hid PX
            clear HL hx
            generalize ks[i] = s at *
            go_wp2_with fail
            refine PX.out.mono ?_
            rintro e w5 ⟨rfl, h5⟩
            have H5a : Below wr.heap.size wr w5 := ((Below.refl _ _).alloc (Nat.le_refl _) _).trans (h5.mono (by simp))
            have H5 := Lib.hid (HBR.out.trans (H5a.mono HBR.out.size))
            clear H5a
            have H6 := Lib.hid (HB3.out.trans (H5.out.mono HB3.out.size))
            clear h5
            go_wp2_with fail
            go_ret
            rw [HA.out]
            exact ⟨rfl, H6.out⟩
        · have : i = ks.length := by omega
          have HA := Lib.hid (show ra = true from HY.out fun j y hj => HN.out j y (by omega))
          go_wp2_with fail
          go_ret
          rw [HA.out]
          exact ⟨rfl, HBW.out⟩
    · obtain rfl : may = true := by simpa using hm
      clear hm
      go_enter Try.func25, Try.ntmps25
      go_wp2_with fail
      refine (SA.out _ ((Below.refl _ _).alloc (Nat.le_refl _) _)).mono ?_
      rintro e w1 ⟨rfl, hg⟩
      have k1 : w1.cell? ⟨w.heap.size, 0, none⟩ = some (.int .i64 8) := (hg.cell (p := ⟨w.heap.size, 0, none⟩) (by simp)).trans (by simp)
      have HB := Lib.hid (show Below w.heap.size w w1 from ((Below.refl _ _).alloc (Nat.le_refl _) _).trans (hg.mono (by simp)))
      obtain ⟨hc, hf⟩ := bcell hg; have hs := hg.size; (try simp at hs); have hs0 : w.heap.size < w1.heap.size := (by omega); have HG := Lib.hid hg; clear hg
      go_wp2_with fail
      refine (KA.out _ HB.out).mono ?_
      rintro e w2 ⟨rfl, hg⟩
      have k2 : w2.cell? ⟨w.heap.size, 0, none⟩ = some (.int .i64 8) := (hg.cell (p := ⟨w.heap.size, 0, none⟩) (by assumption)).trans k1
      have HB2 := Lib.hid (HB.out.trans (hg.mono HB.out.size))
      have hgs := Lib.hid hg.size
      obtain ⟨hc, hf⟩ := bcell hg; have hs := hg.size; (try simp at hs); have HG := Lib.hid hg; clear hg
      have hs2 : w.heap.size < w2.heap.size := by have := hgs.out; omega
      go_wp2_with fail
      refine (HO.out _ HB2.out).mono ?_
      rintro e w3 ⟨rfl, hg⟩
      have k3 : w3.cell? ⟨w.heap.size, 0, none⟩ = some (.int .i64 8) := (hg.cell (p := ⟨w.heap.size, 0, none⟩) (by assumption)).trans k2
      have HB3 := Lib.hid (HB2.out.trans (hg.mono HB2.out.size))
      have hgs := Lib.hid hg.size
      obtain ⟨hc, hf⟩ := bcell hg; have hs := hg.size; (try simp at hs); have HG := Lib.hid hg; clear hg
      have hs3 : w.heap.size < w3.heap.size := by have := hgs.out; omega
      have HSI := Lib.hid (HK.out.later HB3.out)
      go_wp2_with fail
      go_loopg [5, 6, 26] ks.length (fun gg s5 s6 s26 wr => ∃ i : Nat, gg = ks.length - i ∧ i ≤ ks.length ∧ s26 = .int .i64 (i : Int) ∧ (∀ j y, j < i → ks[j]? = some y → q y (decide (0 < j)) = true) ∧ Below w3.heap.size w3 wr)
      case atStart => exact ⟨0, rfl, by omega, rfl, fun j y h => absurd h (Nat.not_lt_zero _), Below.refl _ _⟩
      case round =>
        obtain ⟨i, hg, hi, rfl, hno, hg4⟩ := hrel
        have HGG := Lib.hid hg
        have HN := Lib.hid hno
        have HBR := Lib.hid hg4
        have HBW := Lib.hid (HB3.out.trans (hg4.mono HB3.out.size))
        have HSR := Lib.hid (HK.out.later HBW.out)
        obtain ⟨hcr, hfr⟩ := bcell hg4
        have hsr := hg4.size
        have kr : wr.cell? ⟨w.heap.size, 0, none⟩ = some (.int .i64 8) := (hg4.cell (p := ⟨w.heap.size, 0, none⟩) (by assumption)).trans k3
        have hlr : w.heap.size < wr.heap.size := Nat.lt_of_lt_of_le hs3 hsr
        clear hg hno hg4
        by_cases hlt' : i < ks.length
        · have hl := List.getElem?_eq_getElem hlt'
          obtain ⟨b, o, kv, nv, rfl, c0, c1, c2, c3, c4, c5, hk, hs, ho⟩ := HSR.out.at i _ hl
          obtain ⟨ka', kc', rfl, -⟩ := hk.shape
          obtain ⟨na', nc', rfl, -⟩ := id hs
          have hW : Below w.heap.size w (wr.alloc (.cells #[.int .i64 ks[i].kind, .string ks[i].name, .int .i64 ks[i].num, .slice ka' ks[i].kids.length kc', .slice na' ks[i].names.length nc', .int .i64 ks[i].at_] 30)) := HBW.out.alloc HBW.out.size _
          have PX := Lib.hid (fun bb => HH.out ks[i] _ _ bb (wr.alloc (.cells #[.int .i64 ks[i].kind, .string ks[i].name, .int .i64 ks[i].num, .slice ka' ks[i].kids.length kc', .slice na' ks[i].names.length nc', .int .i64 ks[i].at_] 30)) (hk.later ((Below.refl _ _).alloc (Nat.le_refl _) _)) (hs.later ((Below.refl _ _).alloc (Nat.le_refl _) _)) ho (List.getElem_mem hlt'))
          have HL := Lib.hid hl
          clear hl hk hs ho hW
          cases hx : q ks[i] (decide (0 < i)) with
          | true =>
            have HM := Lib.hid (show ∀ j y, j < i + 1 → ks[j]? = some y → q y (decide (0 < j)) = true from fun j y hj hy => by
              by_cases hji : j = i
              · subst hji
                rw [HL.out] at hy; injection hy with hy; subst hy; exact hx
              · exact HN.out j y (by omega) hy)
            replace PX := PX.out (decide (0 < i))
            rw [hx] at PX
            replace PX := Lib.hid PX
            clear HL hx
            generalize ks[i] = s at *
            go_wp2_with fail
            refine PX.out.mono ?_
            rintro e w5 ⟨rfl, h5⟩
            have H5a : Below wr.heap.size wr w5 := ((Below.refl _ _).alloc (Nat.le_refl _) _).trans (h5.mono (by simp))
            have H5 := Lib.hid (HBR.out.trans (H5a.mono HBR.out.size))
            clear H5a
            clear h5
            go_wp2_with fail
            go_roundg (ks.length - (i + 1))
            case measure => rw [HGG.out]; omega
            case rel => exact ⟨i + 1, rfl, by omega, by go_num, HM.out, H5.out⟩
          | false =>
            have HA := Lib.hid (show ra = false from HZ.out i _ HL.out hx)
            replace PX := PX.out (decide (0 < i))
            rw [hx] at PX
            replace PX := Lib.hid PX
            clear HL hx
            generalize ks[i] = s at *
            go_wp2_with fail
            refine PX.out.mono ?_
            rintro e w5 ⟨rfl, h5⟩
            have H5a : Below wr.heap.size wr w5 := ((Below.refl _ _).alloc (Nat.le_refl _) _).trans (h5.mono (by simp))
            have H5 := Lib.hid (HBR.out.trans (H5a.mono HBR.out.size))
            clear H5a
            have H6 := Lib.hid (HB3.out.trans (H5.out.mono HB3.out.size))
            clear h5
            go_wp2_with fail
            go_ret
            rw [HA.out]
            exact ⟨rfl, H6.out⟩
        · have : i = ks.length := by omega
          have HA := Lib.hid (show ra = true from HY.out fun j y hj => HN.out j y (by omega))
          go_wp2_with fail
          go_ret
          rw [HA.out]
          exact ⟨rfl, HBW.out⟩
  · replace HY : Hid ((∀ j y, j < ks.length → ks[j]? = some y → q y false = true) → ra = true) := Lib.hid fun h => HY.out fun j y h1 h2 => by rw [show (decide (k = 8) && decide (0 < j)) = false by simp [k8]]; exact h j y h1 h2
    replace HZ : Hid (∀ i y, ks[i]? = some y → q y false = false → ra = false) := Lib.hid fun i y h1 h2 => HZ.out i y h1 (by rw [show (decide (k = 8) && decide (0 < i)) = false by simp [k8]]; exact h2)
    have e8 : (k == 8) = false := by simpa using k8
    clear k8
    cases rh
    · clear hm
      go_enter Try.func25, Try.ntmps25
      go_wp2_with fail
      refine (SA.out _ ((Below.refl _ _).alloc (Nat.le_refl _) _)).mono ?_
      rintro e w1 ⟨rfl, hg⟩
      have k1 : w1.cell? ⟨w.heap.size, 0, none⟩ = some (.int .i64 k) := (hg.cell (p := ⟨w.heap.size, 0, none⟩) (by simp)).trans (by simp)
      have HB := Lib.hid (show Below w.heap.size w w1 from ((Below.refl _ _).alloc (Nat.le_refl _) _).trans (hg.mono (by simp)))
      obtain ⟨hc, hf⟩ := bcell hg; have hs := hg.size; (try simp at hs); have hs0 : w.heap.size < w1.heap.size := (by omega); have HG := Lib.hid hg; clear hg
      go_wp2_with fail
      refine (KA.out _ HB.out).mono ?_
      rintro e w2 ⟨rfl, hg⟩
      have k2 : w2.cell? ⟨w.heap.size, 0, none⟩ = some (.int .i64 k) := (hg.cell (p := ⟨w.heap.size, 0, none⟩) (by assumption)).trans k1
      have HB2 := Lib.hid (HB.out.trans (hg.mono HB.out.size))
      have hgs := Lib.hid hg.size
      obtain ⟨hc, hf⟩ := bcell hg; have hs := hg.size; (try simp at hs); have HG := Lib.hid hg; clear hg
      have hs2 : w.heap.size < w2.heap.size := by have := hgs.out; omega
      go_wp2_with fail
      refine (HO.out _ HB2.out).mono ?_
      rintro e w3 ⟨rfl, hg⟩
      have k3 : w3.cell? ⟨w.heap.size, 0, none⟩ = some (.int .i64 k) := (hg.cell (p := ⟨w.heap.size, 0, none⟩) (by assumption)).trans k2
      have HB3 := Lib.hid (HB2.out.trans (hg.mono HB2.out.size))
      have hgs := Lib.hid hg.size
      obtain ⟨hc, hf⟩ := bcell hg; have hs := hg.size; (try simp at hs); have HG := Lib.hid hg; clear hg
      have hs3 : w.heap.size < w3.heap.size := by have := hgs.out; omega
      have HSI := Lib.hid (HK.out.later HB3.out)
      go_wp2_with fail
      go_loopg [5, 6, 26] ks.length (fun gg s5 s6 s26 wr => ∃ i : Nat, gg = ks.length - i ∧ i ≤ ks.length ∧ s26 = .int .i64 (i : Int) ∧ (∀ j y, j < i → ks[j]? = some y → q y (false) = true) ∧ Below w3.heap.size w3 wr)
      case atStart => exact ⟨0, rfl, by omega, rfl, fun j y h => absurd h (Nat.not_lt_zero _), Below.refl _ _⟩
      case round =>
        obtain ⟨i, hg, hi, rfl, hno, hg4⟩ := hrel
        have HGG := Lib.hid hg
        have HN := Lib.hid hno
        have HBR := Lib.hid hg4
        have HBW := Lib.hid (HB3.out.trans (hg4.mono HB3.out.size))
        have HSR := Lib.hid (HK.out.later HBW.out)
        obtain ⟨hcr, hfr⟩ := bcell hg4
        have hsr := hg4.size
        have kr : wr.cell? ⟨w.heap.size, 0, none⟩ = some (.int .i64 k) := (hg4.cell (p := ⟨w.heap.size, 0, none⟩) (by assumption)).trans k3
        have hlr : w.heap.size < wr.heap.size := Nat.lt_of_lt_of_le hs3 hsr
        clear hg hno hg4
        by_cases hlt' : i < ks.length
        · have hl := List.getElem?_eq_getElem hlt'
          obtain ⟨b, o, kv, nv, rfl, c0, c1, c2, c3, c4, c5, hk, hs, ho⟩ := HSR.out.at i _ hl
          obtain ⟨ka', kc', rfl, -⟩ := hk.shape
          obtain ⟨na', nc', rfl, -⟩ := id hs
          have hW : Below w.heap.size w (wr.alloc (.cells #[.int .i64 ks[i].kind, .string ks[i].name, .int .i64 ks[i].num, .slice ka' ks[i].kids.length kc', .slice na' ks[i].names.length nc', .int .i64 ks[i].at_] 30)) := HBW.out.alloc HBW.out.size _
          have PX := Lib.hid (fun bb => HH.out ks[i] _ _ bb (wr.alloc (.cells #[.int .i64 ks[i].kind, .string ks[i].name, .int .i64 ks[i].num, .slice ka' ks[i].kids.length kc', .slice na' ks[i].names.length nc', .int .i64 ks[i].at_] 30)) (hk.later ((Below.refl _ _).alloc (Nat.le_refl _) _)) (hs.later ((Below.refl _ _).alloc (Nat.le_refl _) _)) ho (List.getElem_mem hlt'))
          have HL := Lib.hid hl
          clear hl hk hs ho hW
          cases hx : q ks[i] (false) with
          | true =>
            have HM := Lib.hid (show ∀ j y, j < i + 1 → ks[j]? = some y → q y (false) = true from fun j y hj hy => by
              by_cases hji : j = i
              · subst hji
                rw [HL.out] at hy; injection hy with hy; subst hy; exact hx
              · exact HN.out j y (by omega) hy)
            replace PX := PX.out (false)
            rw [hx] at PX
            replace PX := Lib.hid PX
            clear HL hx
            generalize ks[i] = s at *
            go_wp2_with fail
            refine PX.out.mono ?_
            rintro e w5 ⟨rfl, h5⟩
            have H5a : Below wr.heap.size wr w5 := ((Below.refl _ _).alloc (Nat.le_refl _) _).trans (h5.mono (by simp))
            have H5 := Lib.hid (HBR.out.trans (H5a.mono HBR.out.size))
            clear H5a
            clear h5
            go_wp2_with fail
            go_roundg (ks.length - (i + 1))
            case measure => rw [HGG.out]; omega
            case rel => exact ⟨i + 1, rfl, by omega, by go_num, HM.out, H5.out⟩
          | false =>
            have HA := Lib.hid (show ra = false from HZ.out i _ HL.out hx)
            replace PX := PX.out (false)
            rw [hx] at PX
            replace PX := Lib.hid PX
            clear HL hx
            generalize ks[i] = s at *
            go_wp2_with fail
            refine PX.out.mono ?_
            rintro e w5 ⟨rfl, h5⟩
            have H5a : Below wr.heap.size wr w5 := ((Below.refl _ _).alloc (Nat.le_refl _) _).trans (h5.mono (by simp))
            have H5 := Lib.hid (HBR.out.trans (H5a.mono HBR.out.size))
            clear H5a
            have H6 := Lib.hid (HB3.out.trans (H5.out.mono HB3.out.size))
            clear h5
            go_wp2_with fail
            go_ret
            rw [HA.out]
            exact ⟨rfl, H6.out⟩
        · have : i = ks.length := by omega
          have HA := Lib.hid (show ra = true from HY.out fun j y hj => HN.out j y (by omega))
          go_wp2_with fail
          go_ret
          rw [HA.out]
          exact ⟨rfl, HBW.out⟩
    · obtain rfl : may = true := by simpa using hm
      clear hm
      go_enter Try.func25, Try.ntmps25
      go_wp2_with fail
      refine (SA.out _ ((Below.refl _ _).alloc (Nat.le_refl _) _)).mono ?_
      rintro e w1 ⟨rfl, hg⟩
      have k1 : w1.cell? ⟨w.heap.size, 0, none⟩ = some (.int .i64 k) := (hg.cell (p := ⟨w.heap.size, 0, none⟩) (by simp)).trans (by simp)
      have HB := Lib.hid (show Below w.heap.size w w1 from ((Below.refl _ _).alloc (Nat.le_refl _) _).trans (hg.mono (by simp)))
      obtain ⟨hc, hf⟩ := bcell hg; have hs := hg.size; (try simp at hs); have hs0 : w.heap.size < w1.heap.size := (by omega); have HG := Lib.hid hg; clear hg
      go_wp2_with fail
      refine (KA.out _ HB.out).mono ?_
      rintro e w2 ⟨rfl, hg⟩
      have k2 : w2.cell? ⟨w.heap.size, 0, none⟩ = some (.int .i64 k) := (hg.cell (p := ⟨w.heap.size, 0, none⟩) (by assumption)).trans k1
      have HB2 := Lib.hid (HB.out.trans (hg.mono HB.out.size))
      have hgs := Lib.hid hg.size
      obtain ⟨hc, hf⟩ := bcell hg; have hs := hg.size; (try simp at hs); have HG := Lib.hid hg; clear hg
      have hs2 : w.heap.size < w2.heap.size := by have := hgs.out; omega
      go_wp2_with fail
      refine (HO.out _ HB2.out).mono ?_
      rintro e w3 ⟨rfl, hg⟩
      have k3 : w3.cell? ⟨w.heap.size, 0, none⟩ = some (.int .i64 k) := (hg.cell (p := ⟨w.heap.size, 0, none⟩) (by assumption)).trans k2
      have HB3 := Lib.hid (HB2.out.trans (hg.mono HB2.out.size))
      have hgs := Lib.hid hg.size
      obtain ⟨hc, hf⟩ := bcell hg; have hs := hg.size; (try simp at hs); have HG := Lib.hid hg; clear hg
      have hs3 : w.heap.size < w3.heap.size := by have := hgs.out; omega
      have HSI := Lib.hid (HK.out.later HB3.out)
      go_wp2_with fail
      go_loopg [5, 6, 26] ks.length (fun gg s5 s6 s26 wr => ∃ i : Nat, gg = ks.length - i ∧ i ≤ ks.length ∧ s26 = .int .i64 (i : Int) ∧ (∀ j y, j < i → ks[j]? = some y → q y (false) = true) ∧ Below w3.heap.size w3 wr)
      case atStart => exact ⟨0, rfl, by omega, rfl, fun j y h => absurd h (Nat.not_lt_zero _), Below.refl _ _⟩
      case round =>
        obtain ⟨i, hg, hi, rfl, hno, hg4⟩ := hrel
        have HGG := Lib.hid hg
        have HN := Lib.hid hno
        have HBR := Lib.hid hg4
        have HBW := Lib.hid (HB3.out.trans (hg4.mono HB3.out.size))
        have HSR := Lib.hid (HK.out.later HBW.out)
        obtain ⟨hcr, hfr⟩ := bcell hg4
        have hsr := hg4.size
        have kr : wr.cell? ⟨w.heap.size, 0, none⟩ = some (.int .i64 k) := (hg4.cell (p := ⟨w.heap.size, 0, none⟩) (by assumption)).trans k3
        have hlr : w.heap.size < wr.heap.size := Nat.lt_of_lt_of_le hs3 hsr
        clear hg hno hg4
        by_cases hlt' : i < ks.length
        · have hl := List.getElem?_eq_getElem hlt'
          obtain ⟨b, o, kv, nv, rfl, c0, c1, c2, c3, c4, c5, hk, hs, ho⟩ := HSR.out.at i _ hl
          obtain ⟨ka', kc', rfl, -⟩ := hk.shape
          obtain ⟨na', nc', rfl, -⟩ := id hs
          have hW : Below w.heap.size w (wr.alloc (.cells #[.int .i64 ks[i].kind, .string ks[i].name, .int .i64 ks[i].num, .slice ka' ks[i].kids.length kc', .slice na' ks[i].names.length nc', .int .i64 ks[i].at_] 30)) := HBW.out.alloc HBW.out.size _
          have PX := Lib.hid (fun bb => HH.out ks[i] _ _ bb (wr.alloc (.cells #[.int .i64 ks[i].kind, .string ks[i].name, .int .i64 ks[i].num, .slice ka' ks[i].kids.length kc', .slice na' ks[i].names.length nc', .int .i64 ks[i].at_] 30)) (hk.later ((Below.refl _ _).alloc (Nat.le_refl _) _)) (hs.later ((Below.refl _ _).alloc (Nat.le_refl _) _)) ho (List.getElem_mem hlt'))
          have HL := Lib.hid hl
          clear hl hk hs ho hW
          cases hx : q ks[i] (false) with
          | true =>
            have HM := Lib.hid (show ∀ j y, j < i + 1 → ks[j]? = some y → q y (false) = true from fun j y hj hy => by
              by_cases hji : j = i
              · subst hji
                rw [HL.out] at hy; injection hy with hy; subst hy; exact hx
              · exact HN.out j y (by omega) hy)
            replace PX := PX.out (false)
            rw [hx] at PX
            replace PX := Lib.hid PX
            clear HL hx
            generalize ks[i] = s at *
            go_wp2_with fail
            refine PX.out.mono ?_
            rintro e w5 ⟨rfl, h5⟩
            have H5a : Below wr.heap.size wr w5 := ((Below.refl _ _).alloc (Nat.le_refl _) _).trans (h5.mono (by simp))
            have H5 := Lib.hid (HBR.out.trans (H5a.mono HBR.out.size))
            clear H5a
            clear h5
            go_wp2_with fail
            go_roundg (ks.length - (i + 1))
            case measure => rw [HGG.out]; omega
            case rel => exact ⟨i + 1, rfl, by omega, by go_num, HM.out, H5.out⟩
          | false =>
            have HA := Lib.hid (show ra = false from HZ.out i _ HL.out hx)
            replace PX := PX.out (false)
            rw [hx] at PX
            replace PX := Lib.hid PX
            clear HL hx
            generalize ks[i] = s at *
            go_wp2_with fail
            refine PX.out.mono ?_
            rintro e w5 ⟨rfl, h5⟩
            have H5a : Below wr.heap.size wr w5 := ((Below.refl _ _).alloc (Nat.le_refl _) _).trans (h5.mono (by simp))
            have H5 := Lib.hid (HBR.out.trans (H5a.mono HBR.out.size))
            clear H5a
            have H6 := Lib.hid (HB3.out.trans (H5.out.mono HB3.out.size))
            clear h5
            go_wp2_with fail
            go_ret
            rw [HA.out]
            exact ⟨rfl, H6.out⟩
        · have : i = ks.length := by omega
          have HA := Lib.hid (show ra = true from HY.out fun j y hj => HN.out j y (by omega))
          go_wp2_with fail
          go_ret
          rw [HA.out]
          exact ⟨rfl, HBW.out⟩
end Go.Proofs.Ytpfgidhchjcomaa
namespace Go.Proofs.Ytpfgidhchjcomaa
open Go.RowKit
set_option linter.unusedVariables false
def fitsB : Nat → Nd → Bool → Bool
  | 0 => fitB1 fun _ _ => true
  | d + 1 => fitB1 (fitsB d)
theorem nodes0 {x : Nat → Prop} {w : World} {v : Value} {l : List Nd} (h : NodesX x 0 w v l) : l = [] := h.1
theorem fits_any (x : Nat → Prop) : ∀ (d : Nat) (n : Nd) (kv nv : Value) (may : Bool) (w : World), NodesX x d w kv n.kids → StrsX x w nv n.names → Calls Try.prog 25 #[ndV n kv nv, .bool may] w fun e w' => e = .returned (.bool (fitsB d n may)) ∧ Below w.heap.size w w'
  | 0, n, kv, nv, may, w, hk, hs => fits_step x 0 n kv nv may w hk.succ hs _ fun k kv' nv' b W h1 h2 h3 hm => by
      rw [nodes0 hk] at hm
      cases hm
  | d + 1, n, kv, nv, may, w, hk, hs => fits_step x d n kv nv may w hk hs _ fun k kv' nv' b W h1 h2 _ _ => fits_any x d k kv' nv' b W h1 h2
set_option maxRecDepth 100000 in
theorem fn_fits (x : Nat → Prop) (d : Nat) : FnN x d 24 fun n => fitsB d n false := by
  intro n kv nv w hk hs ho
  have FA := Lib.hid (fun W (hb : Below w.heap.size w W) => fits_any x d n kv nv false W (hk.later hb) (hs.later hb))
  clear hk hs ho
  show Calls Try.prog 24 #[ndV n kv nv] w fun e w' => e = .returned (.bool (fitsB d n false)) ∧ Below w.heap.size w w'
  generalize fitsB d n false = r at *
  obtain ⟨k, nm, nu, ks, ns, at_⟩ := n
  show Calls Try.prog 24 #[.agg #[.int .i64 k, .string nm, .int .i64 nu, kv, nv, .int .i64 at_]] w fun e w' => e = .returned (.bool r) ∧ Below w.heap.size w w'
  replace FA : Hid (∀ W, Below w.heap.size w W → Calls Try.prog 25 #[.agg #[.int .i64 k, .string nm, .int .i64 nu, kv, nv, .int .i64 at_], .bool false] W fun e w' => e = .returned (.bool r) ∧ Below W.heap.size W w') := FA
  go_enter Try.func24, Try.ntmps24
  go_wp2_with fail
  refine (FA.out _ ((Below.refl _ _).alloc (Nat.le_refl _) _)).mono ?_
  rintro e w1 ⟨rfl, hb⟩
  have HB := Lib.hid (show Below w.heap.size w w1 from ((Below.refl _ _).alloc (Nat.le_refl _) _).trans (hb.mono (by simp)))
  clear hb
  go_wp2_with fail
  go_ret
  exact ⟨rfl, HB.out⟩
end Go.Proofs.Ytpfgidhchjcomaa
