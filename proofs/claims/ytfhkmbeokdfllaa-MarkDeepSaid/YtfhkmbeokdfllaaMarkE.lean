/- Going through objects: all that is led to from some words, the last one first. -/
import Derived.Test.YtfhkmbeokdfllaaMarkD
import Derived.BigQuiet
namespace Go.Proofs.Ytfhkmbeokdfllaa
open Go.RowKit
set_option linter.unusedVariables false
theorem LookAt.wait {w : World} {B p h N k : Nat} {T : Nat → Bool} {l : List Nat} (H : LookAt w B p h N T l k) : ∃ a cap, w.cell? ⟨p, 2, none⟩ = some (.slice a l.length cap) ∧ l.length ≤ cap ∧ cap ≤ maxLen := by
  obtain ⟨b, v, h1, h2, h3, h4, h5, h6⟩ := H
  have z2 := cellO h3 2
  simp at z2
  rcases h6 with ⟨rfl, hn⟩ | ⟨g, cap, cur, rfl, -, -, c1, c2, -⟩
  · exact ⟨none, 0, by rw [hn]; exact z2, by omega, by unfold maxLen; omega⟩
  · exact ⟨_, cap, z2, c1, c2⟩
theorem LookAt.pop {w : World} {B p h N k x : Nat} {T : Nat → Bool} {l : List Nat} (H : LookAt w B p h N T (l ++ [x]) k) :
    ∃ g cap, w.cell? ⟨p, 2, none⟩ = some (.slice (some ⟨g, 0, none⟩) (l.length + 1) cap) ∧ l.length + 1 ≤ cap ∧ cap ≤ maxLen ∧ w.cell? ⟨g, l.length, none⟩ = some (.int .u64 (x : Int)) ∧ w.frozen? ⟨p, 2, none⟩ = false ∧ B ≤ p ∧
      LookAt (w.setCell ⟨p, 2, none⟩ (.slice (some ⟨g, 0, none⟩) l.length cap)) B p h N T l k := by
  obtain ⟨b, v, h1, h2, h3, h4, h5, h6⟩ := H
  have z2 := cellO h3 2
  simp at z2
  have f2 : w.frozen? ⟨p, 2, none⟩ = false := by unfold World.frozen?; rw [h3]; rfl
  rcases h6 with ⟨-, hn⟩ | ⟨g, cap, cur, rfl, hg, hcur, c1, c2, c3, c4⟩
  · simp at hn
  · have hlen : (l ++ [x]).length = l.length + 1 := by simp
    rw [hlen] at z2 c1 c4
    rw [Nat.mul_one] at c3 c4
    have hcl : cur[l.length]? = some (.int .u64 (x : Int)) := by
      have e1 : (cur.toList.take (l.length + 1))[l.length]? = (wordCells (l ++ [x]))[l.length]? := by rw [c4]
      rw [List.getElem?_take] at e1
      simp [wordCells] at e1
      exact e1
    have K := (KeepsBut.refl 75 w).setCell (a := ⟨p, 2, none⟩) (u := .slice (some ⟨g, 0, none⟩) l.length cap) ⟨_, _, h3⟩
    refine ⟨g, cap, z2, c1, c2, ?_, f2, h1, b, _, h1, h2, heap_setCell_same w p 2 _ _ _ h3, h4.keeps K (by decide) (by decide), by simp [wordCells], Or.inr ⟨g, cap, cur, rfl, hg, (K g _ _ _ hcur (by decide)).trans hcur, by omega, c2, by rw [Nat.mul_one]; exact c3, ?_⟩⟩
    · simp [World.cell?, hcur, hcl]
    · rw [Nat.mul_one]
      have e2 : (cur.toList.take (l.length + 1)).take l.length = (wordCells (l ++ [x])).take l.length := by rw [c4]
      rw [List.take_take, Nat.min_eq_left (by omega)] at e2
      rw [e2]; simp [wordCells]
theorem LookAt.loose {w : World} {B p h N k : Nat} {T : Nat → Bool} {l : List Nat} (H : LookAt w B p h N T l k) : w.cell? ⟨p, 4, none⟩ = some (.bool false) ∧ p < w.heap.size := by
  obtain ⟨b, v, h1, hp, -, -, -, -, z4, -⟩ := H.parts
  exact ⟨z4, hp⟩
def rootsN (N : Nat) (M : Nat → Nat) (rs : List Nat) : Nat → St
  | 0 => ((fun _ => false), [], 0)
  | i + 1 => lead1 N M (rootsN N M rs i) (rs.getD i 1)
theorem rootsN_len (N : Nat) (M : Nat → Nat) (rs : List Nat) (i : Nat) : (rootsN N M rs i).2.1.length ≤ i ∧ (rootsN N M rs i).2.2 ≤ 1048578 * i := by
  induction i with
  | zero => exact ⟨Nat.le_refl _, Nat.le_refl _⟩
  | succ i ih => have := lead1_len N M (rootsN N M rs i) (rs.getD i 1); unfold rootsN; omega
/-- one step: the last one that waits is gone through -/
def PopStep (N : Nat) (S : Nat → Bool) (M : Nat → Nat) (s t : St) : Prop :=
  s.2.2 ≤ 10000000000000000 ∧ ∃ a l, s.2.1 = l ++ [a * 2] ∧ l.length ≤ 1000000000 ∧ OKF N S M a ∧ t = allM N M (s.1, l, s.2.2) a
set_option maxRecDepth 100000 in
set_option maxHeartbeats 1000000 in
theorem reach_any (B0 h N free : Nat) (S : Nat → Bool) (M : Nat → Nat) (rs : List Nat) (st : Nat → St) (m rb cap : Nat) (w : World) (H0 : HeapAt w B0 h N free S M)
    (hrs : ∀ i, i < rs.length → OKW N S M (rs.getD i 1) ∧ w.cell? ⟨rb, i, none⟩ = some (.int .u64 (rs.getD i 1 : Int))) (hrb : rb < w.heap.size) (hcap : rs.length ≤ cap) (hcap2 : cap ≤ 1000000) (hs0 : st 0 = rootsN N M rs rs.length) (hst : ∀ i, i < m → PopStep N S M (st i) (st (i + 1))) (hend : (st m).2.1 = []) :
    Calls Try.prog 18 #[.pointer (some ⟨h, 0, none⟩), .slice (some ⟨rb, 0, none⟩) rs.length cap] w fun e w' => ∃ b, e = .returned (.tuple #[.pointer (some ⟨b, 0, none⟩), .int .i64 ((st m).2.2 : Int), .int .i64 0]) ∧ BitsAt w' w.heap.size b N (st m).1 ∧ Below w.heap.size w w' := by
  obtain ⟨B, hB⟩ : ∃ B, w.heap.size = B := ⟨_, rfl⟩
  have BG := Lib.hid (begin_any B0 h N free S M w H0)
  have LD := Lib.hid (fun p W (hW : Below B w W) t (hL : LookS W B p h N t) x hx h1 h2 => lead_any w B0 B p h N free x S M t W H0 hB hW hL hx h1 h2)
  have AA := Lib.hid (fun p W (hW : Below B w W) t (hL : LookS W B p h N t) a ha h1 h2 => all_any w B0 B p h N free a S M t W H0 hB hW hL ha h1 h2)
  have RS := Lib.hid hrs
  have ST := Lib.hid hst
  have S0 := Lib.hid hs0
  have EN := Lib.hid hend
  have RL := Lib.hid (rootsN_len N M rs)
  rw [hB] at BG hrb ⊢
  generalize hq : rs.length = q at *
  clear hrs hst hs0 hend H0 hB
  go_enter Try.func18, Try.ntmps18
  go_wp2_with fail
  refine BG.out.mono ?_
  rintro e w1 ⟨p, rfl, hl1, hg1⟩
  have HL1 := Lib.hid (show LookS w1 B p h N (rootsN N M rs 0) from hl1)
  have HG1 := Lib.hid hg1
  clear hl1 hg1
  go_wp2_with fail
  go_loopg [16] q (fun gg s16 wr => ∃ i : Nat, gg = q - i ∧ i ≤ q ∧ s16 = .int .i64 (i : Int) ∧ LookS wr B p h N (rootsN N M rs i) ∧ Below B w wr)
  case atStart => exact ⟨0, rfl, by omega, rfl, HL1.out, HG1.out⟩
  case round =>
    obtain ⟨i, hgi, hi, rfl, hl5, hg5⟩ := hrel
    have HGI := Lib.hid hgi
    have HL5 := Lib.hid hl5
    have HG5 := Lib.hid hg5
    clear hgi
    by_cases hlt : i < q
    · obtain ⟨r1, r2⟩ := RS.out i hlt
      have r3 : wr.cell? ⟨rb, i, none⟩ = some (.int .u64 (rs.getD i 1 : Int)) := (hg5.cell (p := ⟨rb, i, none⟩) hrb).trans r2
      have hE : rootsN N M rs (i + 1) = lead1 N M (rootsN N M rs i) (rs.getD i 1) := rfl
      generalize rs.getD i 1 = x at *
      have HE := Lib.hid hE
      have HR := Lib.hid r1
      have LDi := Lib.hid (LD.out p wr hg5 _ hl5 _ r1 (by have := RL.out i; omega) (by have := RL.out i; omega))
      clear r1 r2 hl5 hg5 hE
      go_wp2_with fail
      refine LDi.out.mono ?_
      rintro e w7 ⟨rfl, hl7, hg7, hk7, hf7⟩
      have HL7 := Lib.hid (show LookS w7 B p h N (rootsN N M rs (i + 1)) from by rw [HE.out]; exact hl7)
      have HG7 := Lib.hid (HG5.out.trans hg7)
      clear hl7 hg7 hk7 hf7
      go_wp2_with fail
      go_roundg (q - (i + 1))
      case measure => rw [HGI.out]; omega
      case rel => exact ⟨i + 1, rfl, by omega, by go_num, HL7.out, HG7.out⟩
    · have : i = q := by omega
      subst this
      have hl6 := hl5
      rw [← S0.out] at hl6
      have HL6 := Lib.hid hl6
      obtain ⟨wa, wcap, z2, -, -⟩ := hl6.wait
      clear hl5 hg5 hl6 HL5
      go_wp2_with fail
      go_loopg [10] m (fun gg s10 wr => ∃ i : Nat, gg = m - i ∧ i ≤ m ∧ s10 = .int .i64 ((st i).2.1.length : Int) ∧ LookS wr B p h N (st i) ∧ Below B w wr)
      case atStart => exact ⟨0, rfl, by omega, rfl, HL6.out, HG5.out⟩
      case round =>
        obtain ⟨j, hgj, hj, rfl, hl8, hg8⟩ := hrel
        have HGJ := Lib.hid hgj
        have HL8 := Lib.hid hl8
        have HG8 := Lib.hid hg8
        obtain ⟨zl, hpl⟩ := hl8.loose
        clear hgj hl8 hg8 HL6 HG5
        by_cases hlt : j < m
        · obtain ⟨hk, a, l, hl, hll, ha, hnext⟩ := ST.out j hlt
          have hl9 := HL8.out
          unfold LookS at hl9
          rw [hl] at hl9
          obtain ⟨g, cp, y2, y3, y4, y5, y6, y7, y8⟩ := hl9.pop
          rw [hl, List.length_append, List.length_singleton]
          have HJ := Lib.hid hnext
          have HA := Lib.hid ha
          have HY8 := Lib.hid (show LookS (wr.setCell ⟨p, 2, none⟩ (.slice (some ⟨g, 0, none⟩) l.length cp)) B p h N ((st j).1, l, (st j).2.2) from y8)
          have HG9 := Lib.hid (show Below B w (wr.setCell ⟨p, 2, none⟩ (.slice (some ⟨g, 0, none⟩) l.length cp)) from HG8.out.setCell y7 _)
          have AAj := Lib.hid (AA.out p _ HG9.out _ HY8.out a ha (by simp only []; omega) hk)
          unfold maxLen at y4
          clear hl9 hnext ha y8 hl
          generalize l.length = ln at *
          go_wp2_with fail
          all_goals (try (exfalso; go_light; omega))
          refine AAj.out.mono ?_
          rintro e w9 ⟨rfl, hl9, hg9, hf9⟩
          rw [← HJ.out] at hl9
          have HL9 := Lib.hid hl9
          have HGA := Lib.hid (HG9.out.trans hg9)
          obtain ⟨wb, wbcap, z9, -, -⟩ := hl9.wait
          clear hl9 hg9 hf9
          go_wp2_with fail
          all_goals (try (exfalso; go_light; omega))
          go_roundg (m - (j + 1))
          case measure => rw [HGJ.out]; omega
          case rel => exact ⟨j + 1, rfl, by omega, rfl, HL9.out, HGA.out⟩
        · have : j = m := by omega
          subst this
          have he := EN.out
          rw [he, List.length_nil]
          obtain ⟨b, v, k1, k2, z0, z1, z2', z3, z4, f4, hb, -⟩ := HL8.out.parts
          have HB := Lib.hid hb
          clear hb he
          go_wp2_with fail
          all_goals (try (exfalso; go_light; omega))
          go_quiet (fail)
          all_goals (try (exfalso; go_light; omega))
          go_wp2_with fail
          refine bodyPost_ret (v := .tuple #[.pointer (some ⟨b, 0, none⟩), .int .i64 ((st j).2.2 : Int), .int .i64 0]) (by simp [results, Try.results18, go_sem]) rfl ?_
          exact ⟨b, rfl, HB.out.of_heap rfl, ⟨HG8.out.os, HG8.out.tape, HG8.out.output, HG8.out.size, HG8.out.block⟩⟩
end Go.Proofs.Ytfhkmbeokdfllaa
