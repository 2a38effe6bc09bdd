/- A name is assigned. -/
import Derived.Test.YtpfgidhchjcomaaMeItemS
namespace Go.Proofs.Ytpfgidhchjcomaa
open Go.RowKit
set_option linter.unusedVariables false
set_option maxRecDepth 100000 in
set_option maxHeartbeats 8000000 in
theorem assign_any (B : Nat) (p : Nat) (kn : List Kn) (slots : Nat) (fv gv : Value) (F G : List ByteArray) (d : Nat) (K : Kfn) (n : Nd) (kv nv : Value) (w : World) (h : RsAt B w p kn slots fv gv F G) (hk : NodesX (· < B) d w kv n.kids) (hs : StrsX (· < B) w nv n.names) (ho : NdOk n) (hkc : KC B p fv gv F G d K n.kids) :
    Calls Try.prog 47 #[.pointer (some ⟨p, 0, none⟩), ndV n kv nv] w fun e w' => OnePost B w p kn fv gv F G d (assignM F K kn slots n) e w' := by
  obtain ⟨k, s, nu, ks, ns, at_⟩ := n
  replace hk : NodesX (· < B) d w kv ks := hk
  replace hs : StrsX (· < B) w nv ns := hs
  obtain ⟨ka, kc, rfl, -⟩ := id hk.shape
  obtain ⟨na, nc, rfl, -⟩ := id hs
  have hpw := h.get.1
  have hBw : B ≤ w.heap.size := by have := h.pB; omega
  have HR := Lib.hid h
  have HKD := Lib.hid hk
  have HNS := Lib.hid hs
  have hsz : s.size ≤ maxLen := ho.2.2.2
  have HKC := Lib.hid (show KC B p fv gv F G d K ks from hkc)
  have HM := Lib.hid (show assignM F K kn slots (.mk k s nu ks ns at_) = (if assignBad F kn s = true then none else match K kn slots ks with | none => none | some r => match findM kn s with | some k => some (.mk 12 noName 0 (k.slot : Int) 0 r.1, r.2) | none => some (.mk 13 noName 0 (fieldM F s) 0 r.1, r.2)) from rfl)
  have HBD := Lib.hid (show assignBad F kn s = ((pseudoM s).isSome || (s.toList == superL) || (match findM kn s with | some k => !k.set | none => decide (fieldM F s < 0))) from rfl)
  obtain ⟨-, v, c0, c1, c2, c3, cf, hkn⟩ := h.get
  have HC := Lib.hid (show ∀ W, Below w.heap.size w W → W.cell? ⟨p, 0, none⟩ = some v ∧ W.cell? ⟨p, 2, none⟩ = some fv from fun W hW => ⟨(hW.cell (p := ⟨p, 0, none⟩) hpw).trans c0, (hW.cell (p := ⟨p, 2, none⟩) hpw).trans c2⟩)
  have FA := Lib.hid (fun W (hW : Below w.heap.size w W) => find_any p _ kn s W ((HC.out W hW).1) (hkn.later hW))
  have FD := Lib.hid (fun W (hW : Below w.heap.size w W) => field_any (· < B) p _ F s W ((HC.out W hW).2) (h.fs.later hW) h.nF)
  have PA := Lib.hid (fun W => pseudo_any s W hsz)
  clear hkc h hk hs ho hkn c0 c1 c2 c3 cf HC
  show Calls Try.prog 47 #[.pointer (some ⟨p, 0, none⟩), .agg #[.int .i64 k, .string s, .int .i64 nu, .slice ka ks.length kc, .slice na ns.length nc, .int .i64 at_]] w fun e w' => OnePost B w p kn fv gv F G d (assignM F K kn slots (.mk k s nu ks ns at_)) e w'
  cases hf : findM kn s with
  | some q1 =>
    have FX := Lib.hid (fun W hW => by have q := FA.out W hW; rw [hf] at q; exact (show Calls Try.prog 43 #[.pointer (some ⟨p, 0, none⟩), .string s] W fun e w' => e = .returned (.tuple #[.agg #[.string q1.name, .int .i64 (q1.slot : Int), .bool q1.set], .bool true]) ∧ Below W.heap.size W w' from q))
    generalize hfm : fieldM F s = fm at *
    cases hp : (pseudoM s).isSome with
    | true =>
      have HV := Lib.hid (HM.out.trans (if_pos (by rw [HBD.out]; simp [hp])))
      obtain ⟨a, PX⟩ : ∃ a : Int, Hid (∀ W, Calls Try.prog 45 #[.string s] W fun e w' => e = .returned (.tuple #[.int .i64 a, .bool true]) ∧ Below W.heap.size W w') := ⟨_, Lib.hid fun W => by have q := PA.out W; rw [hp] at q; exact q⟩
      clear FA PA HKC HM HBD hp hf
      have hb0 : Below w.heap.size w ((w.alloc (.cells #[.int .i64 k, .string s, .int .i64 nu, .slice ka ks.length kc, .slice na ns.length nc, .int .i64 at_] 30)).alloc (.cells #[.int .i64 0, .string ⟨#[]⟩, .int .i64 0, .int .i64 0, .int .i64 0, .slice none 0 0] 73)) := ((Below.refl _ _).alloc (Nat.le_refl _) _).alloc (by simp) _
      have hq1 : ((w.alloc (.cells #[.int .i64 k, .string s, .int .i64 nu, .slice ka ks.length kc, .slice na ns.length nc, .int .i64 at_] 30)).alloc (.cells #[.int .i64 0, .string ⟨#[]⟩, .int .i64 0, .int .i64 0, .int .i64 0, .slice none 0 0] 73)).heap[w.heap.size]? = some (.cells #[.int .i64 k, .string s, .int .i64 nu, .slice ka ks.length kc, .slice na ns.length nc, .int .i64 at_] 30 (0, 0)) := (heap_alloc_old _ _ _ (by simp)).trans (heap_alloc_new w _)
      have hq2 : ((w.alloc (.cells #[.int .i64 k, .string s, .int .i64 nu, .slice ka ks.length kc, .slice na ns.length nc, .int .i64 at_] 30)).alloc (.cells #[.int .i64 0, .string ⟨#[]⟩, .int .i64 0, .int .i64 0, .int .i64 0, .slice none 0 0] 73)).heap[w.heap.size + 1]? = some (.cells #[.int .i64 0, .string ⟨#[]⟩, .int .i64 0, .int .i64 0, .int .i64 0, .slice none 0 0] 73 (0, 0)) := heap_alloc2_new w _ _
      have hsz0 : ((w.alloc (.cells #[.int .i64 k, .string s, .int .i64 nu, .slice ka ks.length kc, .slice na ns.length nc, .int .i64 at_] 30)).alloc (.cells #[.int .i64 0, .string ⟨#[]⟩, .int .i64 0, .int .i64 0, .int .i64 0, .slice none 0 0] 73)).heap.size = w.heap.size + 2 := by simp
      go_enter Try.func47, Try.ntmps47
      go_upto_region 1 with fail
      generalize ((w.alloc (.cells #[.int .i64 k, .string s, .int .i64 nu, .slice ka ks.length kc, .slice na ns.length nc, .int .i64 at_] 30)).alloc (.cells #[.int .i64 0, .string ⟨#[]⟩, .int .i64 0, .int .i64 0, .int .i64 0, .slice none 0 0] 73)) = w0 at *
      have HB0 := Lib.hid hb0
      have HQ1 := Lib.hid hq1
      have HQ2 := Lib.hid hq2
      have n0 := cell_of_row w0 w.heap.size 0 _ _ _ hq1
      have n1 := cell_of_row w0 w.heap.size 1 _ _ _ hq1
      have n2 := cell_of_row w0 w.heap.size 2 _ _ _ hq1
      have n3 := cell_of_row w0 w.heap.size 3 _ _ _ hq1
      have n4 := cell_of_row w0 w.heap.size 4 _ _ _ hq1
      have n5 := cell_of_row w0 w.heap.size 5 _ _ _ hq1
      simp at n0 n1 n2 n3 n4 n5
      clear hb0 hq1 hq2
      have hl0 : w.heap.size + 1 < w0.heap.size := by omega
      have hl0' : w.heap.size < w0.heap.size := by omega
      go_wp2_with fail
      refine (FX.out _ HB0.out).mono ?_
      rintro e w1 ⟨rfl, h1⟩
      have z1 := h1.size
      have H1 := Lib.hid h1
      clear h1
      go_upto_region 2 with fail
      have hba : Below w0.heap.size w0 (w1.alloc (.cells #[.string q1.name, .int .i64 (q1.slot : Int), .bool q1.set] 91)) := H1.out.alloc z1 _
      have hq3 : (w1.alloc (.cells #[.string q1.name, .int .i64 (q1.slot : Int), .bool q1.set] 91)).heap[w1.heap.size]? = some (.cells #[.string q1.name, .int .i64 (q1.slot : Int), .bool q1.set] 91 (0, 0)) := heap_alloc_new w1 _
      have zW : (w1.alloc (.cells #[.string q1.name, .int .i64 (q1.slot : Int), .bool q1.set] 91)).heap.size = w1.heap.size + 1 := by simp
      generalize (w1.alloc (.cells #[.string q1.name, .int .i64 (q1.slot : Int), .bool q1.set] 91)) = W1 at *
      have HA := Lib.hid hba
      have m1 : W1.cell? ⟨w.heap.size, 1, none⟩ = some (.string s) := (hba.cell (p := ⟨w.heap.size, 1, none⟩) hl0').trans n1
      have hl1 : w.heap.size < W1.heap.size := by omega
      have HW1 := Lib.hid (HB0.out.trans (hba.mono HB0.out.size))
      clear hba
      go_wp2_with fail
      refine (FD.out _ HW1.out).mono ?_
      rintro e w2 ⟨rfl, h2⟩
      have z2 := h2.size
      have m2 : w2.cell? ⟨w.heap.size, 1, none⟩ = some (.string s) := (h2.cell (p := ⟨w.heap.size, 1, none⟩) hl1).trans m1
      have H2 := Lib.hid h2
      clear h2
      go_wp2_with fail
      refine (PX.out _).mono ?_
      rintro e w3 ⟨rfl, h3⟩
      have z3 := h3.size
      have H3 := Lib.hid (show Below W1.heap.size W1 w3 from H2.out.trans (h3.mono z2))
      have H03 := Lib.hid (show Below w0.heap.size w0 w3 from HA.out.trans (H3.out.mono (by omega)))
      have HW3 := Lib.hid (HW1.out.trans (H3.out.mono HW1.out.size))
      clear h3
      have l1 : w3.cell? ⟨w.heap.size, 1, none⟩ = some (.string s) := (H03.out.cell (p := ⟨w.heap.size, 1, none⟩) hl0').trans n1
      have l3 : w3.cell? ⟨w.heap.size, 3, none⟩ = some (.slice ka ks.length kc) := (H03.out.cell (p := ⟨w.heap.size, 3, none⟩) hl0').trans n3
      have l5 : w3.cell? ⟨w.heap.size, 5, none⟩ = some (.int .i64 at_) := (H03.out.cell (p := ⟨w.heap.size, 5, none⟩) hl0').trans n5
      have hq4 := (H3.out.block w1.heap.size (by omega)).trans hq3
      have l6 := cell_of_row w3 w1.heap.size 1 _ _ _ hq4
      have l7 := cell_of_row w3 w1.heap.size 2 _ _ _ hq4
      simp at l6 l7
      have HQ4 := Lib.hid hq4
      clear hq3 hq4 m1 m2
      go_wp2_with fail
      exact ⟨rfl, OnePost.no HV.out ⟨_, by decide, rfl⟩ (below_down HW3.out hBw)⟩
    | false =>
      cases hs : (s.toList == superL) with
      | true =>
        have HV := Lib.hid (HM.out.trans (if_pos (by rw [HBD.out]; simp [hs])))
        obtain ⟨a, PX⟩ : ∃ a : Int, Hid (∀ W, Calls Try.prog 45 #[.string s] W fun e w' => e = .returned (.tuple #[.int .i64 a, .bool false]) ∧ Below W.heap.size W w') := ⟨_, Lib.hid fun W => by have q := PA.out W; rw [hp] at q; exact q⟩
        have hs' : (s.toList == [115, 117, 112, 101, 114]) = true := hs
        clear FA PA HKC HM HBD hp hs hf
        have hb0 : Below w.heap.size w ((w.alloc (.cells #[.int .i64 k, .string s, .int .i64 nu, .slice ka ks.length kc, .slice na ns.length nc, .int .i64 at_] 30)).alloc (.cells #[.int .i64 0, .string ⟨#[]⟩, .int .i64 0, .int .i64 0, .int .i64 0, .slice none 0 0] 73)) := ((Below.refl _ _).alloc (Nat.le_refl _) _).alloc (by simp) _
        have hq1 : ((w.alloc (.cells #[.int .i64 k, .string s, .int .i64 nu, .slice ka ks.length kc, .slice na ns.length nc, .int .i64 at_] 30)).alloc (.cells #[.int .i64 0, .string ⟨#[]⟩, .int .i64 0, .int .i64 0, .int .i64 0, .slice none 0 0] 73)).heap[w.heap.size]? = some (.cells #[.int .i64 k, .string s, .int .i64 nu, .slice ka ks.length kc, .slice na ns.length nc, .int .i64 at_] 30 (0, 0)) := (heap_alloc_old _ _ _ (by simp)).trans (heap_alloc_new w _)
        have hq2 : ((w.alloc (.cells #[.int .i64 k, .string s, .int .i64 nu, .slice ka ks.length kc, .slice na ns.length nc, .int .i64 at_] 30)).alloc (.cells #[.int .i64 0, .string ⟨#[]⟩, .int .i64 0, .int .i64 0, .int .i64 0, .slice none 0 0] 73)).heap[w.heap.size + 1]? = some (.cells #[.int .i64 0, .string ⟨#[]⟩, .int .i64 0, .int .i64 0, .int .i64 0, .slice none 0 0] 73 (0, 0)) := heap_alloc2_new w _ _
        have hsz0 : ((w.alloc (.cells #[.int .i64 k, .string s, .int .i64 nu, .slice ka ks.length kc, .slice na ns.length nc, .int .i64 at_] 30)).alloc (.cells #[.int .i64 0, .string ⟨#[]⟩, .int .i64 0, .int .i64 0, .int .i64 0, .slice none 0 0] 73)).heap.size = w.heap.size + 2 := by simp
        go_enter Try.func47, Try.ntmps47
        go_upto_region 1 with fail
        generalize ((w.alloc (.cells #[.int .i64 k, .string s, .int .i64 nu, .slice ka ks.length kc, .slice na ns.length nc, .int .i64 at_] 30)).alloc (.cells #[.int .i64 0, .string ⟨#[]⟩, .int .i64 0, .int .i64 0, .int .i64 0, .slice none 0 0] 73)) = w0 at *
        have HB0 := Lib.hid hb0
        have HQ1 := Lib.hid hq1
        have HQ2 := Lib.hid hq2
        have n0 := cell_of_row w0 w.heap.size 0 _ _ _ hq1
        have n1 := cell_of_row w0 w.heap.size 1 _ _ _ hq1
        have n2 := cell_of_row w0 w.heap.size 2 _ _ _ hq1
        have n3 := cell_of_row w0 w.heap.size 3 _ _ _ hq1
        have n4 := cell_of_row w0 w.heap.size 4 _ _ _ hq1
        have n5 := cell_of_row w0 w.heap.size 5 _ _ _ hq1
        simp at n0 n1 n2 n3 n4 n5
        clear hb0 hq1 hq2
        have hl0 : w.heap.size + 1 < w0.heap.size := by omega
        have hl0' : w.heap.size < w0.heap.size := by omega
        go_wp2_with fail
        refine (FX.out _ HB0.out).mono ?_
        rintro e w1 ⟨rfl, h1⟩
        have z1 := h1.size
        have H1 := Lib.hid h1
        clear h1
        go_upto_region 2 with fail
        have hba : Below w0.heap.size w0 (w1.alloc (.cells #[.string q1.name, .int .i64 (q1.slot : Int), .bool q1.set] 91)) := H1.out.alloc z1 _
        have hq3 : (w1.alloc (.cells #[.string q1.name, .int .i64 (q1.slot : Int), .bool q1.set] 91)).heap[w1.heap.size]? = some (.cells #[.string q1.name, .int .i64 (q1.slot : Int), .bool q1.set] 91 (0, 0)) := heap_alloc_new w1 _
        have zW : (w1.alloc (.cells #[.string q1.name, .int .i64 (q1.slot : Int), .bool q1.set] 91)).heap.size = w1.heap.size + 1 := by simp
        generalize (w1.alloc (.cells #[.string q1.name, .int .i64 (q1.slot : Int), .bool q1.set] 91)) = W1 at *
        have HA := Lib.hid hba
        have m1 : W1.cell? ⟨w.heap.size, 1, none⟩ = some (.string s) := (hba.cell (p := ⟨w.heap.size, 1, none⟩) hl0').trans n1
        have hl1 : w.heap.size < W1.heap.size := by omega
        have HW1 := Lib.hid (HB0.out.trans (hba.mono HB0.out.size))
        clear hba
        go_wp2_with fail
        refine (FD.out _ HW1.out).mono ?_
        rintro e w2 ⟨rfl, h2⟩
        have z2 := h2.size
        have m2 : w2.cell? ⟨w.heap.size, 1, none⟩ = some (.string s) := (h2.cell (p := ⟨w.heap.size, 1, none⟩) hl1).trans m1
        have H2 := Lib.hid h2
        clear h2
        go_wp2_with fail
        refine (PX.out _).mono ?_
        rintro e w3 ⟨rfl, h3⟩
        have z3 := h3.size
        have H3 := Lib.hid (show Below W1.heap.size W1 w3 from H2.out.trans (h3.mono z2))
        have H03 := Lib.hid (show Below w0.heap.size w0 w3 from HA.out.trans (H3.out.mono (by omega)))
        have HW3 := Lib.hid (HW1.out.trans (H3.out.mono HW1.out.size))
        clear h3
        have l1 : w3.cell? ⟨w.heap.size, 1, none⟩ = some (.string s) := (H03.out.cell (p := ⟨w.heap.size, 1, none⟩) hl0').trans n1
        have l3 : w3.cell? ⟨w.heap.size, 3, none⟩ = some (.slice ka ks.length kc) := (H03.out.cell (p := ⟨w.heap.size, 3, none⟩) hl0').trans n3
        have l5 : w3.cell? ⟨w.heap.size, 5, none⟩ = some (.int .i64 at_) := (H03.out.cell (p := ⟨w.heap.size, 5, none⟩) hl0').trans n5
        have hq4 := (H3.out.block w1.heap.size (by omega)).trans hq3
        have l6 := cell_of_row w3 w1.heap.size 1 _ _ _ hq4
        have l7 := cell_of_row w3 w1.heap.size 2 _ _ _ hq4
        simp at l6 l7
        have HQ4 := Lib.hid hq4
        clear hq3 hq4 m1 m2
        go_wp2_with fail
        exact ⟨rfl, OnePost.no HV.out ⟨_, by decide, rfl⟩ (below_down HW3.out hBw)⟩
      | false =>
        have hs' : (s.toList == [115, 117, 112, 101, 114]) = false := hs
        cases hq : q1.set with
        | false =>
          have HV := Lib.hid (HM.out.trans (if_pos (by rw [HBD.out]; simp [hf, hq])))
          obtain ⟨a, PX⟩ : ∃ a : Int, Hid (∀ W, Calls Try.prog 45 #[.string s] W fun e w' => e = .returned (.tuple #[.int .i64 a, .bool false]) ∧ Below W.heap.size W w') := ⟨_, Lib.hid fun W => by have q := PA.out W; rw [hp] at q; exact q⟩
          rw [hq] at FX
          clear FA PA HKC HM HBD hp hs hf
          have hb0 : Below w.heap.size w ((w.alloc (.cells #[.int .i64 k, .string s, .int .i64 nu, .slice ka ks.length kc, .slice na ns.length nc, .int .i64 at_] 30)).alloc (.cells #[.int .i64 0, .string ⟨#[]⟩, .int .i64 0, .int .i64 0, .int .i64 0, .slice none 0 0] 73)) := ((Below.refl _ _).alloc (Nat.le_refl _) _).alloc (by simp) _
          have hq1 : ((w.alloc (.cells #[.int .i64 k, .string s, .int .i64 nu, .slice ka ks.length kc, .slice na ns.length nc, .int .i64 at_] 30)).alloc (.cells #[.int .i64 0, .string ⟨#[]⟩, .int .i64 0, .int .i64 0, .int .i64 0, .slice none 0 0] 73)).heap[w.heap.size]? = some (.cells #[.int .i64 k, .string s, .int .i64 nu, .slice ka ks.length kc, .slice na ns.length nc, .int .i64 at_] 30 (0, 0)) := (heap_alloc_old _ _ _ (by simp)).trans (heap_alloc_new w _)
          have hq2 : ((w.alloc (.cells #[.int .i64 k, .string s, .int .i64 nu, .slice ka ks.length kc, .slice na ns.length nc, .int .i64 at_] 30)).alloc (.cells #[.int .i64 0, .string ⟨#[]⟩, .int .i64 0, .int .i64 0, .int .i64 0, .slice none 0 0] 73)).heap[w.heap.size + 1]? = some (.cells #[.int .i64 0, .string ⟨#[]⟩, .int .i64 0, .int .i64 0, .int .i64 0, .slice none 0 0] 73 (0, 0)) := heap_alloc2_new w _ _
          have hsz0 : ((w.alloc (.cells #[.int .i64 k, .string s, .int .i64 nu, .slice ka ks.length kc, .slice na ns.length nc, .int .i64 at_] 30)).alloc (.cells #[.int .i64 0, .string ⟨#[]⟩, .int .i64 0, .int .i64 0, .int .i64 0, .slice none 0 0] 73)).heap.size = w.heap.size + 2 := by simp
          go_enter Try.func47, Try.ntmps47
          go_upto_region 1 with fail
          generalize ((w.alloc (.cells #[.int .i64 k, .string s, .int .i64 nu, .slice ka ks.length kc, .slice na ns.length nc, .int .i64 at_] 30)).alloc (.cells #[.int .i64 0, .string ⟨#[]⟩, .int .i64 0, .int .i64 0, .int .i64 0, .slice none 0 0] 73)) = w0 at *
          have HB0 := Lib.hid hb0
          have HQ1 := Lib.hid hq1
          have HQ2 := Lib.hid hq2
          have n0 := cell_of_row w0 w.heap.size 0 _ _ _ hq1
          have n1 := cell_of_row w0 w.heap.size 1 _ _ _ hq1
          have n2 := cell_of_row w0 w.heap.size 2 _ _ _ hq1
          have n3 := cell_of_row w0 w.heap.size 3 _ _ _ hq1
          have n4 := cell_of_row w0 w.heap.size 4 _ _ _ hq1
          have n5 := cell_of_row w0 w.heap.size 5 _ _ _ hq1
          simp at n0 n1 n2 n3 n4 n5
          clear hb0 hq1 hq2
          have hl0 : w.heap.size + 1 < w0.heap.size := by omega
          have hl0' : w.heap.size < w0.heap.size := by omega
          go_wp2_with fail
          refine (FX.out _ HB0.out).mono ?_
          rintro e w1 ⟨rfl, h1⟩
          have z1 := h1.size
          have H1 := Lib.hid h1
          clear h1
          go_upto_region 2 with fail
          have hba : Below w0.heap.size w0 (w1.alloc (.cells #[.string q1.name, .int .i64 (q1.slot : Int), .bool false] 91)) := H1.out.alloc z1 _
          have hq3 : (w1.alloc (.cells #[.string q1.name, .int .i64 (q1.slot : Int), .bool false] 91)).heap[w1.heap.size]? = some (.cells #[.string q1.name, .int .i64 (q1.slot : Int), .bool false] 91 (0, 0)) := heap_alloc_new w1 _
          have zW : (w1.alloc (.cells #[.string q1.name, .int .i64 (q1.slot : Int), .bool false] 91)).heap.size = w1.heap.size + 1 := by simp
          generalize (w1.alloc (.cells #[.string q1.name, .int .i64 (q1.slot : Int), .bool false] 91)) = W1 at *
          have HA := Lib.hid hba
          have m1 : W1.cell? ⟨w.heap.size, 1, none⟩ = some (.string s) := (hba.cell (p := ⟨w.heap.size, 1, none⟩) hl0').trans n1
          have hl1 : w.heap.size < W1.heap.size := by omega
          have HW1 := Lib.hid (HB0.out.trans (hba.mono HB0.out.size))
          clear hba
          go_wp2_with fail
          refine (FD.out _ HW1.out).mono ?_
          rintro e w2 ⟨rfl, h2⟩
          have z2 := h2.size
          have m2 : w2.cell? ⟨w.heap.size, 1, none⟩ = some (.string s) := (h2.cell (p := ⟨w.heap.size, 1, none⟩) hl1).trans m1
          have H2 := Lib.hid h2
          clear h2
          go_wp2_with fail
          refine (PX.out _).mono ?_
          rintro e w3 ⟨rfl, h3⟩
          have z3 := h3.size
          have H3 := Lib.hid (show Below W1.heap.size W1 w3 from H2.out.trans (h3.mono z2))
          have H03 := Lib.hid (show Below w0.heap.size w0 w3 from HA.out.trans (H3.out.mono (by omega)))
          have HW3 := Lib.hid (HW1.out.trans (H3.out.mono HW1.out.size))
          clear h3
          have l1 : w3.cell? ⟨w.heap.size, 1, none⟩ = some (.string s) := (H03.out.cell (p := ⟨w.heap.size, 1, none⟩) hl0').trans n1
          have l3 : w3.cell? ⟨w.heap.size, 3, none⟩ = some (.slice ka ks.length kc) := (H03.out.cell (p := ⟨w.heap.size, 3, none⟩) hl0').trans n3
          have l5 : w3.cell? ⟨w.heap.size, 5, none⟩ = some (.int .i64 at_) := (H03.out.cell (p := ⟨w.heap.size, 5, none⟩) hl0').trans n5
          have hq4 := (H3.out.block w1.heap.size (by omega)).trans hq3
          have l6 := cell_of_row w3 w1.heap.size 1 _ _ _ hq4
          have l7 := cell_of_row w3 w1.heap.size 2 _ _ _ hq4
          simp at l6 l7
          have HQ4 := Lib.hid hq4
          clear hq3 hq4 m1 m2
          go_wp2_with fail
          exact ⟨rfl, OnePost.no HV.out ⟨_, by decide, rfl⟩ (below_down HW3.out hBw)⟩
        | true =>
          have HV0 := Lib.hid ((HM.out.trans (if_neg (by rw [HBD.out, hp, hs, hf]; simp [hq]))).trans (by rw [hf]))
          obtain ⟨a, PX⟩ : ∃ a : Int, Hid (∀ W, Calls Try.prog 45 #[.string s] W fun e w' => e = .returned (.tuple #[.int .i64 a, .bool false]) ∧ Below W.heap.size W w') := ⟨_, Lib.hid fun W => by have q := PA.out W; rw [hp] at q; exact q⟩
          rw [hq] at FX
          clear FA PA HM HBD hp hs hf
          have hb0 : Below w.heap.size w ((w.alloc (.cells #[.int .i64 k, .string s, .int .i64 nu, .slice ka ks.length kc, .slice na ns.length nc, .int .i64 at_] 30)).alloc (.cells #[.int .i64 0, .string ⟨#[]⟩, .int .i64 0, .int .i64 0, .int .i64 0, .slice none 0 0] 73)) := ((Below.refl _ _).alloc (Nat.le_refl _) _).alloc (by simp) _
          have hq1 : ((w.alloc (.cells #[.int .i64 k, .string s, .int .i64 nu, .slice ka ks.length kc, .slice na ns.length nc, .int .i64 at_] 30)).alloc (.cells #[.int .i64 0, .string ⟨#[]⟩, .int .i64 0, .int .i64 0, .int .i64 0, .slice none 0 0] 73)).heap[w.heap.size]? = some (.cells #[.int .i64 k, .string s, .int .i64 nu, .slice ka ks.length kc, .slice na ns.length nc, .int .i64 at_] 30 (0, 0)) := (heap_alloc_old _ _ _ (by simp)).trans (heap_alloc_new w _)
          have hq2 : ((w.alloc (.cells #[.int .i64 k, .string s, .int .i64 nu, .slice ka ks.length kc, .slice na ns.length nc, .int .i64 at_] 30)).alloc (.cells #[.int .i64 0, .string ⟨#[]⟩, .int .i64 0, .int .i64 0, .int .i64 0, .slice none 0 0] 73)).heap[w.heap.size + 1]? = some (.cells #[.int .i64 0, .string ⟨#[]⟩, .int .i64 0, .int .i64 0, .int .i64 0, .slice none 0 0] 73 (0, 0)) := heap_alloc2_new w _ _
          have hsz0 : ((w.alloc (.cells #[.int .i64 k, .string s, .int .i64 nu, .slice ka ks.length kc, .slice na ns.length nc, .int .i64 at_] 30)).alloc (.cells #[.int .i64 0, .string ⟨#[]⟩, .int .i64 0, .int .i64 0, .int .i64 0, .slice none 0 0] 73)).heap.size = w.heap.size + 2 := by simp
          go_enter Try.func47, Try.ntmps47
          go_upto_region 1 with fail
          generalize ((w.alloc (.cells #[.int .i64 k, .string s, .int .i64 nu, .slice ka ks.length kc, .slice na ns.length nc, .int .i64 at_] 30)).alloc (.cells #[.int .i64 0, .string ⟨#[]⟩, .int .i64 0, .int .i64 0, .int .i64 0, .slice none 0 0] 73)) = w0 at *
          have HB0 := Lib.hid hb0
          have HQ1 := Lib.hid hq1
          have HQ2 := Lib.hid hq2
          have n0 := cell_of_row w0 w.heap.size 0 _ _ _ hq1
          have n1 := cell_of_row w0 w.heap.size 1 _ _ _ hq1
          have n2 := cell_of_row w0 w.heap.size 2 _ _ _ hq1
          have n3 := cell_of_row w0 w.heap.size 3 _ _ _ hq1
          have n4 := cell_of_row w0 w.heap.size 4 _ _ _ hq1
          have n5 := cell_of_row w0 w.heap.size 5 _ _ _ hq1
          simp at n0 n1 n2 n3 n4 n5
          clear hb0 hq1 hq2
          have hl0 : w.heap.size + 1 < w0.heap.size := by omega
          have hl0' : w.heap.size < w0.heap.size := by omega
          go_wp2_with fail
          refine (FX.out _ HB0.out).mono ?_
          rintro e w1 ⟨rfl, h1⟩
          have z1 := h1.size
          have H1 := Lib.hid h1
          clear h1
          go_upto_region 2 with fail
          have hba : Below w0.heap.size w0 (w1.alloc (.cells #[.string q1.name, .int .i64 (q1.slot : Int), .bool true] 91)) := H1.out.alloc z1 _
          have hq3 : (w1.alloc (.cells #[.string q1.name, .int .i64 (q1.slot : Int), .bool true] 91)).heap[w1.heap.size]? = some (.cells #[.string q1.name, .int .i64 (q1.slot : Int), .bool true] 91 (0, 0)) := heap_alloc_new w1 _
          have zW : (w1.alloc (.cells #[.string q1.name, .int .i64 (q1.slot : Int), .bool true] 91)).heap.size = w1.heap.size + 1 := by simp
          generalize (w1.alloc (.cells #[.string q1.name, .int .i64 (q1.slot : Int), .bool true] 91)) = W1 at *
          have HA := Lib.hid hba
          have m1 : W1.cell? ⟨w.heap.size, 1, none⟩ = some (.string s) := (hba.cell (p := ⟨w.heap.size, 1, none⟩) hl0').trans n1
          have hl1 : w.heap.size < W1.heap.size := by omega
          have HW1 := Lib.hid (HB0.out.trans (hba.mono HB0.out.size))
          clear hba
          go_wp2_with fail
          refine (FD.out _ HW1.out).mono ?_
          rintro e w2 ⟨rfl, h2⟩
          have z2 := h2.size
          have m2 : w2.cell? ⟨w.heap.size, 1, none⟩ = some (.string s) := (h2.cell (p := ⟨w.heap.size, 1, none⟩) hl1).trans m1
          have H2 := Lib.hid h2
          clear h2
          go_wp2_with fail
          refine (PX.out _).mono ?_
          rintro e w3 ⟨rfl, h3⟩
          have z3 := h3.size
          have H3 := Lib.hid (show Below W1.heap.size W1 w3 from H2.out.trans (h3.mono z2))
          have H03 := Lib.hid (show Below w0.heap.size w0 w3 from HA.out.trans (H3.out.mono (by omega)))
          have HW3 := Lib.hid (HW1.out.trans (H3.out.mono HW1.out.size))
          clear h3
          have l1 : w3.cell? ⟨w.heap.size, 1, none⟩ = some (.string s) := (H03.out.cell (p := ⟨w.heap.size, 1, none⟩) hl0').trans n1
          have l3 : w3.cell? ⟨w.heap.size, 3, none⟩ = some (.slice ka ks.length kc) := (H03.out.cell (p := ⟨w.heap.size, 3, none⟩) hl0').trans n3
          have l5 : w3.cell? ⟨w.heap.size, 5, none⟩ = some (.int .i64 at_) := (H03.out.cell (p := ⟨w.heap.size, 5, none⟩) hl0').trans n5
          have hq4 := (H3.out.block w1.heap.size (by omega)).trans hq3
          have l6 := cell_of_row w3 w1.heap.size 1 _ _ _ hq4
          have l7 := cell_of_row w3 w1.heap.size 2 _ _ _ hq4
          simp at l6 l7
          have HQ4 := Lib.hid hq4
          clear hq3 hq4 m1 m2
          have AY := Lib.hid (show ∀ W, Below w3.heap.size w3 W → Calls Try.prog 13 #[.pointer (some ⟨p, 0, none⟩), .slice ka ks.length kc] W fun e w' => AlPost B W p kn fv gv F G d (K kn slots ks) e w' from fun W hW => HKC.out _ kn slots W ((HR.out.later HW3.out).later hW) ((HKD.out.later HW3.out).later hW))
          have hn3 : w.heap.size < w3.heap.size := by omega
          have hn4 : w1.heap.size < w3.heap.size := by omega
          clear HKC
          cases hx : K kn slots ks with
          | none =>
            rw [hx] at AY
            have HV := Lib.hid (show assignM F K kn slots (.mk k s nu ks ns at_) = none by rw [HV0.out, hx])
            clear hx
            go_upto_region 7 with fail
            go_region_dies
            all_goals
              refine (AY.out _ ?_).mono ?_
              · repeat (first | with_reducible exact Below.refl _ _ | ((with_reducible refine Below.setCell ?_ ?_ _); rotate_left; focus (first | (simp; done) | (simp; omega) | omega)) | ((with_reducible refine Below.alloc ?_ ?_ _); rotate_left; focus (first | (simp; done) | (simp; omega) | omega)) | (with_reducible refine Below.drew ?_) | ((with_reducible refine Below.trans ?_ (Below.mono AY.out ?_)); rotate_left; focus (first | (simp; done) | (simp; omega) | omega)))
              rintro e w6 ⟨⟨at6, e', hne, rfl⟩, h6⟩
              exact ⟨rfl, OnePost.no HV.out ⟨e', hne, rfl⟩ ((below_down HW3.out hBw).trans (Below.trans (by repeat (first | with_reducible exact Below.refl _ _ | ((with_reducible refine Below.setCell ?_ ?_ _); rotate_left; focus (first | (simp; done) | (simp; omega) | omega)) | ((with_reducible refine Below.alloc ?_ ?_ _); rotate_left; focus (first | (simp; done) | (simp; omega) | omega)) | (with_reducible refine Below.drew ?_) | ((with_reducible refine Below.trans ?_ (Below.mono AY.out ?_)); rotate_left; focus (first | (simp; done) | (simp; omega) | omega)))) h6))⟩
          | some q =>
            obtain ⟨its, s'⟩ := q
            rw [hx] at AY
            have HV := Lib.hid (show assignM F K kn slots (.mk k s nu ks ns at_) = some (.mk 12 noName 0 (q1.slot : Int) 0 its, s') by rw [HV0.out, hx])
            clear hx
            have p1 : (w3.drew).cell? ⟨w1.heap.size, 1, none⟩ = some (.int .i64 (q1.slot : Int)) := l6
            have p3 : (w3.drew).cell? ⟨w.heap.size, 3, none⟩ = some (.slice ka ks.length kc) := l3
            have HOB := Lib.hid (show ¬ OwnBlk w3 p w1.heap.size from fun ⟨v1, e1, e2⟩ => by
              have e3 : OwnBlk w p w1.heap.size := ⟨v1, (HW3.out.cell (p := ⟨p, 0, none⟩) hpw).symm.trans e1, e2⟩
              have := (HR.out.own e3).1.lt
              omega)
            go_upto_region 7 with fail
            go_region_held3 (fun w' => w'.cell? ⟨w1.heap.size, 1, none⟩ = some (.int .i64 (q1.slot : Int)) ∧ w'.cell? ⟨w.heap.size, 3, none⟩ = some (.slice ka ks.length kc))
              (first | with_reducible exact ⟨p1, p3⟩ | with_reducible exact ⟨r1, r3⟩ | (refine ⟨?_, ?_⟩ <;> (repeat rw [World.cell?_setCell_far _ _ _ _ (by first | (simp; done) | (simp; omega))]) <;> with_reducible assumption))
              (first
                | (go_at_call 13
                   refine (AY.out _ ?_).mono ?_
                   · exact (Below.refl _ _).drew
                   rintro e w6 ⟨v6, rfl, hit, hr6, hk6, hb6⟩
                   obtain ⟨a6, c6, rfl, -⟩ := id hit.shape
                   have hk7 : Kt p w3 w6 := (Kt.of_below ((Below.refl _ _).drew) (by omega)).trans hk6
                   have hb7 : Below B w3 w6 := (Below.refl B w3).drew.trans hb6
                   have x4 := (hk7.far (b := w1.heap.size) hn4 (by omega) HOB.out).trans HQ4.out
                   have x5 := hk7.keep (HR.out.later HW3.out) ((H03.out.block _ hl0').trans HQ1.out) (by decide) (by decide)
                   have x6 := hk7.keep (HR.out.later HW3.out) ((H03.out.block _ hl0).trans HQ2.out) (by decide) (by decide)
                   have HZ := Lib.hid x6
                   have r1 := cell_of_row w6 w1.heap.size 1 _ _ _ x4
                   have r3 := cell_of_row w6 w.heap.size 3 _ _ _ x5
                   simp at r1 r3
                   have y0 := cell_of_row w6 (w.heap.size + 1) 0 _ _ _ x6
                   have y1 := cell_of_row w6 (w.heap.size + 1) 1 _ _ _ x6
                   have y2 := cell_of_row w6 (w.heap.size + 1) 2 _ _ _ x6
                   have y3 := cell_of_row w6 (w.heap.size + 1) 3 _ _ _ x6
                   have y4 := cell_of_row w6 (w.heap.size + 1) 4 _ _ _ x6
                   have y5 := cell_of_row w6 (w.heap.size + 1) 5 _ _ _ x6
                   have yf : ∀ j, w6.frozen? ⟨w.heap.size + 1, j, none⟩ = false := (by intro j; unfold World.frozen?; rw [x6]; simp)
                   simp at y0 y1 y2 y3 y4 y5
                   have BD := Lib.hid (fun wF hg => box_done (Q := w.heap.size + 1) (wF := wF) HW3.out hpw hBw (by omega) (by omega) hk7 hb7 hr6 hit ⟨_, _, x6⟩ hg)
                   clear hit hr6 hk6 hb6 x6 hk7 hb7 x5 x4))
            clear p1 p3
            go_wp2_with fail
            refine bodyPost_ret (v := .agg #[.int .i64 (12), .string (noName), .int .i64 (0), .int .i64 (q1.slot : Int), .int .i64 (0), (.slice a6 its.length c6)]) (results_cell_row Try.results47 _ _ (w.heap.size + 1) 73 #[.int .i64 (12), .string (noName), .int .i64 (0), .int .i64 (q1.slot : Int), .int .i64 (0), (.slice a6 its.length c6)] (0, 0) _ rfl (heap_set6 HZ.out _ _ _ _ _ _) Try.underlying73 rfl (by kernel_rfl)) rfl ?_
            have BE := BD.out _ (grownBy_set6 w6 (w.heap.size + 1) (.int .i64 12) (.string noName) (.int .i64 0) (.int .i64 (q1.slot : Int)) (.int .i64 0) (.slice a6 its.length c6))
            exact OnePost.yes HV.out rfl BE.1 trivial BE.2.1 BE.2.2.1 BE.2.2.2
  | none =>
    have FX := Lib.hid (fun W hW => by have q := FA.out W hW; rw [hf] at q; exact (show Calls Try.prog 43 #[.pointer (some ⟨p, 0, none⟩), .string s] W fun e w' => e = .returned (.tuple #[.agg #[.string ⟨#[]⟩, .int .i64 0, .bool false], .bool false]) ∧ Below W.heap.size W w' from q))
    generalize hfm : fieldM F s = fm at *
    cases hp : (pseudoM s).isSome with
    | true =>
      have HV := Lib.hid (HM.out.trans (if_pos (by rw [HBD.out]; simp [hp])))
      obtain ⟨a, PX⟩ : ∃ a : Int, Hid (∀ W, Calls Try.prog 45 #[.string s] W fun e w' => e = .returned (.tuple #[.int .i64 a, .bool true]) ∧ Below W.heap.size W w') := ⟨_, Lib.hid fun W => by have q := PA.out W; rw [hp] at q; exact q⟩
      clear FA PA HKC HM HBD hp hf
      have hb0 : Below w.heap.size w ((w.alloc (.cells #[.int .i64 k, .string s, .int .i64 nu, .slice ka ks.length kc, .slice na ns.length nc, .int .i64 at_] 30)).alloc (.cells #[.int .i64 0, .string ⟨#[]⟩, .int .i64 0, .int .i64 0, .int .i64 0, .slice none 0 0] 73)) := ((Below.refl _ _).alloc (Nat.le_refl _) _).alloc (by simp) _
      have hq1 : ((w.alloc (.cells #[.int .i64 k, .string s, .int .i64 nu, .slice ka ks.length kc, .slice na ns.length nc, .int .i64 at_] 30)).alloc (.cells #[.int .i64 0, .string ⟨#[]⟩, .int .i64 0, .int .i64 0, .int .i64 0, .slice none 0 0] 73)).heap[w.heap.size]? = some (.cells #[.int .i64 k, .string s, .int .i64 nu, .slice ka ks.length kc, .slice na ns.length nc, .int .i64 at_] 30 (0, 0)) := (heap_alloc_old _ _ _ (by simp)).trans (heap_alloc_new w _)
      have hq2 : ((w.alloc (.cells #[.int .i64 k, .string s, .int .i64 nu, .slice ka ks.length kc, .slice na ns.length nc, .int .i64 at_] 30)).alloc (.cells #[.int .i64 0, .string ⟨#[]⟩, .int .i64 0, .int .i64 0, .int .i64 0, .slice none 0 0] 73)).heap[w.heap.size + 1]? = some (.cells #[.int .i64 0, .string ⟨#[]⟩, .int .i64 0, .int .i64 0, .int .i64 0, .slice none 0 0] 73 (0, 0)) := heap_alloc2_new w _ _
      have hsz0 : ((w.alloc (.cells #[.int .i64 k, .string s, .int .i64 nu, .slice ka ks.length kc, .slice na ns.length nc, .int .i64 at_] 30)).alloc (.cells #[.int .i64 0, .string ⟨#[]⟩, .int .i64 0, .int .i64 0, .int .i64 0, .slice none 0 0] 73)).heap.size = w.heap.size + 2 := by simp
      go_enter Try.func47, Try.ntmps47
      go_upto_region 1 with fail
      generalize ((w.alloc (.cells #[.int .i64 k, .string s, .int .i64 nu, .slice ka ks.length kc, .slice na ns.length nc, .int .i64 at_] 30)).alloc (.cells #[.int .i64 0, .string ⟨#[]⟩, .int .i64 0, .int .i64 0, .int .i64 0, .slice none 0 0] 73)) = w0 at *
      have HB0 := Lib.hid hb0
      have HQ1 := Lib.hid hq1
      have HQ2 := Lib.hid hq2
      have n0 := cell_of_row w0 w.heap.size 0 _ _ _ hq1
      have n1 := cell_of_row w0 w.heap.size 1 _ _ _ hq1
      have n2 := cell_of_row w0 w.heap.size 2 _ _ _ hq1
      have n3 := cell_of_row w0 w.heap.size 3 _ _ _ hq1
      have n4 := cell_of_row w0 w.heap.size 4 _ _ _ hq1
      have n5 := cell_of_row w0 w.heap.size 5 _ _ _ hq1
      simp at n0 n1 n2 n3 n4 n5
      clear hb0 hq1 hq2
      have hl0 : w.heap.size + 1 < w0.heap.size := by omega
      have hl0' : w.heap.size < w0.heap.size := by omega
      go_wp2_with fail
      refine (FX.out _ HB0.out).mono ?_
      rintro e w1 ⟨rfl, h1⟩
      have z1 := h1.size
      have H1 := Lib.hid h1
      clear h1
      go_upto_region 2 with fail
      have hba : Below w0.heap.size w0 (w1.alloc (.cells #[.string ⟨#[]⟩, .int .i64 0, .bool false] 91)) := H1.out.alloc z1 _
      have hq3 : (w1.alloc (.cells #[.string ⟨#[]⟩, .int .i64 0, .bool false] 91)).heap[w1.heap.size]? = some (.cells #[.string ⟨#[]⟩, .int .i64 0, .bool false] 91 (0, 0)) := heap_alloc_new w1 _
      have zW : (w1.alloc (.cells #[.string ⟨#[]⟩, .int .i64 0, .bool false] 91)).heap.size = w1.heap.size + 1 := by simp
      generalize (w1.alloc (.cells #[.string ⟨#[]⟩, .int .i64 0, .bool false] 91)) = W1 at *
      have HA := Lib.hid hba
      have m1 : W1.cell? ⟨w.heap.size, 1, none⟩ = some (.string s) := (hba.cell (p := ⟨w.heap.size, 1, none⟩) hl0').trans n1
      have hl1 : w.heap.size < W1.heap.size := by omega
      have HW1 := Lib.hid (HB0.out.trans (hba.mono HB0.out.size))
      clear hba
      go_wp2_with fail
      refine (FD.out _ HW1.out).mono ?_
      rintro e w2 ⟨rfl, h2⟩
      have z2 := h2.size
      have m2 : w2.cell? ⟨w.heap.size, 1, none⟩ = some (.string s) := (h2.cell (p := ⟨w.heap.size, 1, none⟩) hl1).trans m1
      have H2 := Lib.hid h2
      clear h2
      go_wp2_with fail
      refine (PX.out _).mono ?_
      rintro e w3 ⟨rfl, h3⟩
      have z3 := h3.size
      have H3 := Lib.hid (show Below W1.heap.size W1 w3 from H2.out.trans (h3.mono z2))
      have H03 := Lib.hid (show Below w0.heap.size w0 w3 from HA.out.trans (H3.out.mono (by omega)))
      have HW3 := Lib.hid (HW1.out.trans (H3.out.mono HW1.out.size))
      clear h3
      have l1 : w3.cell? ⟨w.heap.size, 1, none⟩ = some (.string s) := (H03.out.cell (p := ⟨w.heap.size, 1, none⟩) hl0').trans n1
      have l3 : w3.cell? ⟨w.heap.size, 3, none⟩ = some (.slice ka ks.length kc) := (H03.out.cell (p := ⟨w.heap.size, 3, none⟩) hl0').trans n3
      have l5 : w3.cell? ⟨w.heap.size, 5, none⟩ = some (.int .i64 at_) := (H03.out.cell (p := ⟨w.heap.size, 5, none⟩) hl0').trans n5
      have hq4 := (H3.out.block w1.heap.size (by omega)).trans hq3
      have l6 := cell_of_row w3 w1.heap.size 1 _ _ _ hq4
      have l7 := cell_of_row w3 w1.heap.size 2 _ _ _ hq4
      simp at l6 l7
      have HQ4 := Lib.hid hq4
      clear hq3 hq4 m1 m2
      go_wp2_with fail
      exact ⟨rfl, OnePost.no HV.out ⟨_, by decide, rfl⟩ (below_down HW3.out hBw)⟩
    | false =>
      cases hs : (s.toList == superL) with
      | true =>
        have HV := Lib.hid (HM.out.trans (if_pos (by rw [HBD.out]; simp [hs])))
        obtain ⟨a, PX⟩ : ∃ a : Int, Hid (∀ W, Calls Try.prog 45 #[.string s] W fun e w' => e = .returned (.tuple #[.int .i64 a, .bool false]) ∧ Below W.heap.size W w') := ⟨_, Lib.hid fun W => by have q := PA.out W; rw [hp] at q; exact q⟩
        have hs' : (s.toList == [115, 117, 112, 101, 114]) = true := hs
        clear FA PA HKC HM HBD hp hs hf
        have hb0 : Below w.heap.size w ((w.alloc (.cells #[.int .i64 k, .string s, .int .i64 nu, .slice ka ks.length kc, .slice na ns.length nc, .int .i64 at_] 30)).alloc (.cells #[.int .i64 0, .string ⟨#[]⟩, .int .i64 0, .int .i64 0, .int .i64 0, .slice none 0 0] 73)) := ((Below.refl _ _).alloc (Nat.le_refl _) _).alloc (by simp) _
        have hq1 : ((w.alloc (.cells #[.int .i64 k, .string s, .int .i64 nu, .slice ka ks.length kc, .slice na ns.length nc, .int .i64 at_] 30)).alloc (.cells #[.int .i64 0, .string ⟨#[]⟩, .int .i64 0, .int .i64 0, .int .i64 0, .slice none 0 0] 73)).heap[w.heap.size]? = some (.cells #[.int .i64 k, .string s, .int .i64 nu, .slice ka ks.length kc, .slice na ns.length nc, .int .i64 at_] 30 (0, 0)) := (heap_alloc_old _ _ _ (by simp)).trans (heap_alloc_new w _)
        have hq2 : ((w.alloc (.cells #[.int .i64 k, .string s, .int .i64 nu, .slice ka ks.length kc, .slice na ns.length nc, .int .i64 at_] 30)).alloc (.cells #[.int .i64 0, .string ⟨#[]⟩, .int .i64 0, .int .i64 0, .int .i64 0, .slice none 0 0] 73)).heap[w.heap.size + 1]? = some (.cells #[.int .i64 0, .string ⟨#[]⟩, .int .i64 0, .int .i64 0, .int .i64 0, .slice none 0 0] 73 (0, 0)) := heap_alloc2_new w _ _
        have hsz0 : ((w.alloc (.cells #[.int .i64 k, .string s, .int .i64 nu, .slice ka ks.length kc, .slice na ns.length nc, .int .i64 at_] 30)).alloc (.cells #[.int .i64 0, .string ⟨#[]⟩, .int .i64 0, .int .i64 0, .int .i64 0, .slice none 0 0] 73)).heap.size = w.heap.size + 2 := by simp
        go_enter Try.func47, Try.ntmps47
        go_upto_region 1 with fail
        generalize ((w.alloc (.cells #[.int .i64 k, .string s, .int .i64 nu, .slice ka ks.length kc, .slice na ns.length nc, .int .i64 at_] 30)).alloc (.cells #[.int .i64 0, .string ⟨#[]⟩, .int .i64 0, .int .i64 0, .int .i64 0, .slice none 0 0] 73)) = w0 at *
        have HB0 := Lib.hid hb0
        have HQ1 := Lib.hid hq1
        have HQ2 := Lib.hid hq2
        have n0 := cell_of_row w0 w.heap.size 0 _ _ _ hq1
        have n1 := cell_of_row w0 w.heap.size 1 _ _ _ hq1
        have n2 := cell_of_row w0 w.heap.size 2 _ _ _ hq1
        have n3 := cell_of_row w0 w.heap.size 3 _ _ _ hq1
        have n4 := cell_of_row w0 w.heap.size 4 _ _ _ hq1
        have n5 := cell_of_row w0 w.heap.size 5 _ _ _ hq1
        simp at n0 n1 n2 n3 n4 n5
        clear hb0 hq1 hq2
        have hl0 : w.heap.size + 1 < w0.heap.size := by omega
        have hl0' : w.heap.size < w0.heap.size := by omega
        go_wp2_with fail
        refine (FX.out _ HB0.out).mono ?_
        rintro e w1 ⟨rfl, h1⟩
        have z1 := h1.size
        have H1 := Lib.hid h1
        clear h1
        go_upto_region 2 with fail
        have hba : Below w0.heap.size w0 (w1.alloc (.cells #[.string ⟨#[]⟩, .int .i64 0, .bool false] 91)) := H1.out.alloc z1 _
        have hq3 : (w1.alloc (.cells #[.string ⟨#[]⟩, .int .i64 0, .bool false] 91)).heap[w1.heap.size]? = some (.cells #[.string ⟨#[]⟩, .int .i64 0, .bool false] 91 (0, 0)) := heap_alloc_new w1 _
        have zW : (w1.alloc (.cells #[.string ⟨#[]⟩, .int .i64 0, .bool false] 91)).heap.size = w1.heap.size + 1 := by simp
        generalize (w1.alloc (.cells #[.string ⟨#[]⟩, .int .i64 0, .bool false] 91)) = W1 at *
        have HA := Lib.hid hba
        have m1 : W1.cell? ⟨w.heap.size, 1, none⟩ = some (.string s) := (hba.cell (p := ⟨w.heap.size, 1, none⟩) hl0').trans n1
        have hl1 : w.heap.size < W1.heap.size := by omega
        have HW1 := Lib.hid (HB0.out.trans (hba.mono HB0.out.size))
        clear hba
        go_wp2_with fail
        refine (FD.out _ HW1.out).mono ?_
        rintro e w2 ⟨rfl, h2⟩
        have z2 := h2.size
        have m2 : w2.cell? ⟨w.heap.size, 1, none⟩ = some (.string s) := (h2.cell (p := ⟨w.heap.size, 1, none⟩) hl1).trans m1
        have H2 := Lib.hid h2
        clear h2
        go_wp2_with fail
        refine (PX.out _).mono ?_
        rintro e w3 ⟨rfl, h3⟩
        have z3 := h3.size
        have H3 := Lib.hid (show Below W1.heap.size W1 w3 from H2.out.trans (h3.mono z2))
        have H03 := Lib.hid (show Below w0.heap.size w0 w3 from HA.out.trans (H3.out.mono (by omega)))
        have HW3 := Lib.hid (HW1.out.trans (H3.out.mono HW1.out.size))
        clear h3
        have l1 : w3.cell? ⟨w.heap.size, 1, none⟩ = some (.string s) := (H03.out.cell (p := ⟨w.heap.size, 1, none⟩) hl0').trans n1
        have l3 : w3.cell? ⟨w.heap.size, 3, none⟩ = some (.slice ka ks.length kc) := (H03.out.cell (p := ⟨w.heap.size, 3, none⟩) hl0').trans n3
        have l5 : w3.cell? ⟨w.heap.size, 5, none⟩ = some (.int .i64 at_) := (H03.out.cell (p := ⟨w.heap.size, 5, none⟩) hl0').trans n5
        have hq4 := (H3.out.block w1.heap.size (by omega)).trans hq3
        have l6 := cell_of_row w3 w1.heap.size 1 _ _ _ hq4
        have l7 := cell_of_row w3 w1.heap.size 2 _ _ _ hq4
        simp at l6 l7
        have HQ4 := Lib.hid hq4
        clear hq3 hq4 m1 m2
        go_wp2_with fail
        exact ⟨rfl, OnePost.no HV.out ⟨_, by decide, rfl⟩ (below_down HW3.out hBw)⟩
      | false =>
        have hs' : (s.toList == [115, 117, 112, 101, 114]) = false := hs
        by_cases hd : fm < 0
        · have HV := Lib.hid (HM.out.trans (if_pos (by rw [HBD.out]; simp [hf, hd])))
          obtain ⟨a, PX⟩ : ∃ a : Int, Hid (∀ W, Calls Try.prog 45 #[.string s] W fun e w' => e = .returned (.tuple #[.int .i64 a, .bool false]) ∧ Below W.heap.size W w') := ⟨_, Lib.hid fun W => by have q := PA.out W; rw [hp] at q; exact q⟩
          clear FA PA HKC HM HBD hp hs hf hfm
          have hb0 : Below w.heap.size w ((w.alloc (.cells #[.int .i64 k, .string s, .int .i64 nu, .slice ka ks.length kc, .slice na ns.length nc, .int .i64 at_] 30)).alloc (.cells #[.int .i64 0, .string ⟨#[]⟩, .int .i64 0, .int .i64 0, .int .i64 0, .slice none 0 0] 73)) := ((Below.refl _ _).alloc (Nat.le_refl _) _).alloc (by simp) _
          have hq1 : ((w.alloc (.cells #[.int .i64 k, .string s, .int .i64 nu, .slice ka ks.length kc, .slice na ns.length nc, .int .i64 at_] 30)).alloc (.cells #[.int .i64 0, .string ⟨#[]⟩, .int .i64 0, .int .i64 0, .int .i64 0, .slice none 0 0] 73)).heap[w.heap.size]? = some (.cells #[.int .i64 k, .string s, .int .i64 nu, .slice ka ks.length kc, .slice na ns.length nc, .int .i64 at_] 30 (0, 0)) := (heap_alloc_old _ _ _ (by simp)).trans (heap_alloc_new w _)
          have hq2 : ((w.alloc (.cells #[.int .i64 k, .string s, .int .i64 nu, .slice ka ks.length kc, .slice na ns.length nc, .int .i64 at_] 30)).alloc (.cells #[.int .i64 0, .string ⟨#[]⟩, .int .i64 0, .int .i64 0, .int .i64 0, .slice none 0 0] 73)).heap[w.heap.size + 1]? = some (.cells #[.int .i64 0, .string ⟨#[]⟩, .int .i64 0, .int .i64 0, .int .i64 0, .slice none 0 0] 73 (0, 0)) := heap_alloc2_new w _ _
          have hsz0 : ((w.alloc (.cells #[.int .i64 k, .string s, .int .i64 nu, .slice ka ks.length kc, .slice na ns.length nc, .int .i64 at_] 30)).alloc (.cells #[.int .i64 0, .string ⟨#[]⟩, .int .i64 0, .int .i64 0, .int .i64 0, .slice none 0 0] 73)).heap.size = w.heap.size + 2 := by simp
          go_enter Try.func47, Try.ntmps47
          go_upto_region 1 with fail
          generalize ((w.alloc (.cells #[.int .i64 k, .string s, .int .i64 nu, .slice ka ks.length kc, .slice na ns.length nc, .int .i64 at_] 30)).alloc (.cells #[.int .i64 0, .string ⟨#[]⟩, .int .i64 0, .int .i64 0, .int .i64 0, .slice none 0 0] 73)) = w0 at *
          have HB0 := Lib.hid hb0
          have HQ1 := Lib.hid hq1
          have HQ2 := Lib.hid hq2
          have n0 := cell_of_row w0 w.heap.size 0 _ _ _ hq1
          have n1 := cell_of_row w0 w.heap.size 1 _ _ _ hq1
          have n2 := cell_of_row w0 w.heap.size 2 _ _ _ hq1
          have n3 := cell_of_row w0 w.heap.size 3 _ _ _ hq1
          have n4 := cell_of_row w0 w.heap.size 4 _ _ _ hq1
          have n5 := cell_of_row w0 w.heap.size 5 _ _ _ hq1
          simp at n0 n1 n2 n3 n4 n5
          clear hb0 hq1 hq2
          have hl0 : w.heap.size + 1 < w0.heap.size := by omega
          have hl0' : w.heap.size < w0.heap.size := by omega
          go_wp2_with fail
          refine (FX.out _ HB0.out).mono ?_
          rintro e w1 ⟨rfl, h1⟩
          have z1 := h1.size
          have H1 := Lib.hid h1
          clear h1
          go_upto_region 2 with fail
          have hba : Below w0.heap.size w0 (w1.alloc (.cells #[.string ⟨#[]⟩, .int .i64 0, .bool false] 91)) := H1.out.alloc z1 _
          have hq3 : (w1.alloc (.cells #[.string ⟨#[]⟩, .int .i64 0, .bool false] 91)).heap[w1.heap.size]? = some (.cells #[.string ⟨#[]⟩, .int .i64 0, .bool false] 91 (0, 0)) := heap_alloc_new w1 _
          have zW : (w1.alloc (.cells #[.string ⟨#[]⟩, .int .i64 0, .bool false] 91)).heap.size = w1.heap.size + 1 := by simp
          generalize (w1.alloc (.cells #[.string ⟨#[]⟩, .int .i64 0, .bool false] 91)) = W1 at *
          have HA := Lib.hid hba
          have m1 : W1.cell? ⟨w.heap.size, 1, none⟩ = some (.string s) := (hba.cell (p := ⟨w.heap.size, 1, none⟩) hl0').trans n1
          have hl1 : w.heap.size < W1.heap.size := by omega
          have HW1 := Lib.hid (HB0.out.trans (hba.mono HB0.out.size))
          clear hba
          go_wp2_with fail
          refine (FD.out _ HW1.out).mono ?_
          rintro e w2 ⟨rfl, h2⟩
          have z2 := h2.size
          have m2 : w2.cell? ⟨w.heap.size, 1, none⟩ = some (.string s) := (h2.cell (p := ⟨w.heap.size, 1, none⟩) hl1).trans m1
          have H2 := Lib.hid h2
          clear h2
          go_wp2_with fail
          refine (PX.out _).mono ?_
          rintro e w3 ⟨rfl, h3⟩
          have z3 := h3.size
          have H3 := Lib.hid (show Below W1.heap.size W1 w3 from H2.out.trans (h3.mono z2))
          have H03 := Lib.hid (show Below w0.heap.size w0 w3 from HA.out.trans (H3.out.mono (by omega)))
          have HW3 := Lib.hid (HW1.out.trans (H3.out.mono HW1.out.size))
          clear h3
          have l1 : w3.cell? ⟨w.heap.size, 1, none⟩ = some (.string s) := (H03.out.cell (p := ⟨w.heap.size, 1, none⟩) hl0').trans n1
          have l3 : w3.cell? ⟨w.heap.size, 3, none⟩ = some (.slice ka ks.length kc) := (H03.out.cell (p := ⟨w.heap.size, 3, none⟩) hl0').trans n3
          have l5 : w3.cell? ⟨w.heap.size, 5, none⟩ = some (.int .i64 at_) := (H03.out.cell (p := ⟨w.heap.size, 5, none⟩) hl0').trans n5
          have hq4 := (H3.out.block w1.heap.size (by omega)).trans hq3
          have l6 := cell_of_row w3 w1.heap.size 1 _ _ _ hq4
          have l7 := cell_of_row w3 w1.heap.size 2 _ _ _ hq4
          simp at l6 l7
          have HQ4 := Lib.hid hq4
          clear hq3 hq4 m1 m2
          go_wp2_with fail
          exact ⟨rfl, OnePost.no HV.out ⟨_, by decide, rfl⟩ (below_down HW3.out hBw)⟩
        · have HV0 := Lib.hid ((HM.out.trans (if_neg (by rw [HBD.out, hp, hs, hf]; simp; omega))).trans (by rw [hf]))
          obtain ⟨a, PX⟩ : ∃ a : Int, Hid (∀ W, Calls Try.prog 45 #[.string s] W fun e w' => e = .returned (.tuple #[.int .i64 a, .bool false]) ∧ Below W.heap.size W w') := ⟨_, Lib.hid fun W => by have q := PA.out W; rw [hp] at q; exact q⟩
          clear FA PA HM HBD hp hs hf hfm
          have hb0 : Below w.heap.size w ((w.alloc (.cells #[.int .i64 k, .string s, .int .i64 nu, .slice ka ks.length kc, .slice na ns.length nc, .int .i64 at_] 30)).alloc (.cells #[.int .i64 0, .string ⟨#[]⟩, .int .i64 0, .int .i64 0, .int .i64 0, .slice none 0 0] 73)) := ((Below.refl _ _).alloc (Nat.le_refl _) _).alloc (by simp) _
          have hq1 : ((w.alloc (.cells #[.int .i64 k, .string s, .int .i64 nu, .slice ka ks.length kc, .slice na ns.length nc, .int .i64 at_] 30)).alloc (.cells #[.int .i64 0, .string ⟨#[]⟩, .int .i64 0, .int .i64 0, .int .i64 0, .slice none 0 0] 73)).heap[w.heap.size]? = some (.cells #[.int .i64 k, .string s, .int .i64 nu, .slice ka ks.length kc, .slice na ns.length nc, .int .i64 at_] 30 (0, 0)) := (heap_alloc_old _ _ _ (by simp)).trans (heap_alloc_new w _)
          have hq2 : ((w.alloc (.cells #[.int .i64 k, .string s, .int .i64 nu, .slice ka ks.length kc, .slice na ns.length nc, .int .i64 at_] 30)).alloc (.cells #[.int .i64 0, .string ⟨#[]⟩, .int .i64 0, .int .i64 0, .int .i64 0, .slice none 0 0] 73)).heap[w.heap.size + 1]? = some (.cells #[.int .i64 0, .string ⟨#[]⟩, .int .i64 0, .int .i64 0, .int .i64 0, .slice none 0 0] 73 (0, 0)) := heap_alloc2_new w _ _
          have hsz0 : ((w.alloc (.cells #[.int .i64 k, .string s, .int .i64 nu, .slice ka ks.length kc, .slice na ns.length nc, .int .i64 at_] 30)).alloc (.cells #[.int .i64 0, .string ⟨#[]⟩, .int .i64 0, .int .i64 0, .int .i64 0, .slice none 0 0] 73)).heap.size = w.heap.size + 2 := by simp
          go_enter Try.func47, Try.ntmps47
          go_upto_region 1 with fail
          generalize ((w.alloc (.cells #[.int .i64 k, .string s, .int .i64 nu, .slice ka ks.length kc, .slice na ns.length nc, .int .i64 at_] 30)).alloc (.cells #[.int .i64 0, .string ⟨#[]⟩, .int .i64 0, .int .i64 0, .int .i64 0, .slice none 0 0] 73)) = w0 at *
          have HB0 := Lib.hid hb0
          have HQ1 := Lib.hid hq1
          have HQ2 := Lib.hid hq2
          have n0 := cell_of_row w0 w.heap.size 0 _ _ _ hq1
          have n1 := cell_of_row w0 w.heap.size 1 _ _ _ hq1
          have n2 := cell_of_row w0 w.heap.size 2 _ _ _ hq1
          have n3 := cell_of_row w0 w.heap.size 3 _ _ _ hq1
          have n4 := cell_of_row w0 w.heap.size 4 _ _ _ hq1
          have n5 := cell_of_row w0 w.heap.size 5 _ _ _ hq1
          simp at n0 n1 n2 n3 n4 n5
          clear hb0 hq1 hq2
          have hl0 : w.heap.size + 1 < w0.heap.size := by omega
          have hl0' : w.heap.size < w0.heap.size := by omega
          go_wp2_with fail
          refine (FX.out _ HB0.out).mono ?_
          rintro e w1 ⟨rfl, h1⟩
          have z1 := h1.size
          have H1 := Lib.hid h1
          clear h1
          go_upto_region 2 with fail
          have hba : Below w0.heap.size w0 (w1.alloc (.cells #[.string ⟨#[]⟩, .int .i64 0, .bool false] 91)) := H1.out.alloc z1 _
          have hq3 : (w1.alloc (.cells #[.string ⟨#[]⟩, .int .i64 0, .bool false] 91)).heap[w1.heap.size]? = some (.cells #[.string ⟨#[]⟩, .int .i64 0, .bool false] 91 (0, 0)) := heap_alloc_new w1 _
          have zW : (w1.alloc (.cells #[.string ⟨#[]⟩, .int .i64 0, .bool false] 91)).heap.size = w1.heap.size + 1 := by simp
          generalize (w1.alloc (.cells #[.string ⟨#[]⟩, .int .i64 0, .bool false] 91)) = W1 at *
          have HA := Lib.hid hba
          have m1 : W1.cell? ⟨w.heap.size, 1, none⟩ = some (.string s) := (hba.cell (p := ⟨w.heap.size, 1, none⟩) hl0').trans n1
          have hl1 : w.heap.size < W1.heap.size := by omega
          have HW1 := Lib.hid (HB0.out.trans (hba.mono HB0.out.size))
          clear hba
          go_wp2_with fail
          refine (FD.out _ HW1.out).mono ?_
          rintro e w2 ⟨rfl, h2⟩
          have z2 := h2.size
          have m2 : w2.cell? ⟨w.heap.size, 1, none⟩ = some (.string s) := (h2.cell (p := ⟨w.heap.size, 1, none⟩) hl1).trans m1
          have H2 := Lib.hid h2
          clear h2
          go_wp2_with fail
          refine (PX.out _).mono ?_
          rintro e w3 ⟨rfl, h3⟩
          have z3 := h3.size
          have H3 := Lib.hid (show Below W1.heap.size W1 w3 from H2.out.trans (h3.mono z2))
          have H03 := Lib.hid (show Below w0.heap.size w0 w3 from HA.out.trans (H3.out.mono (by omega)))
          have HW3 := Lib.hid (HW1.out.trans (H3.out.mono HW1.out.size))
          clear h3
          have l1 : w3.cell? ⟨w.heap.size, 1, none⟩ = some (.string s) := (H03.out.cell (p := ⟨w.heap.size, 1, none⟩) hl0').trans n1
          have l3 : w3.cell? ⟨w.heap.size, 3, none⟩ = some (.slice ka ks.length kc) := (H03.out.cell (p := ⟨w.heap.size, 3, none⟩) hl0').trans n3
          have l5 : w3.cell? ⟨w.heap.size, 5, none⟩ = some (.int .i64 at_) := (H03.out.cell (p := ⟨w.heap.size, 5, none⟩) hl0').trans n5
          have hq4 := (H3.out.block w1.heap.size (by omega)).trans hq3
          have l6 := cell_of_row w3 w1.heap.size 1 _ _ _ hq4
          have l7 := cell_of_row w3 w1.heap.size 2 _ _ _ hq4
          simp at l6 l7
          have HQ4 := Lib.hid hq4
          clear hq3 hq4 m1 m2
          have AY := Lib.hid (show ∀ W, Below w3.heap.size w3 W → Calls Try.prog 13 #[.pointer (some ⟨p, 0, none⟩), .slice ka ks.length kc] W fun e w' => AlPost B W p kn fv gv F G d (K kn slots ks) e w' from fun W hW => HKC.out _ kn slots W ((HR.out.later HW3.out).later hW) ((HKD.out.later HW3.out).later hW))
          have hn3 : w.heap.size < w3.heap.size := by omega
          have hn4 : w1.heap.size < w3.heap.size := by omega
          clear HKC
          cases hx : K kn slots ks with
          | none =>
            rw [hx] at AY
            have HV := Lib.hid (show assignM F K kn slots (.mk k s nu ks ns at_) = none by rw [HV0.out, hx])
            clear hx
            go_wp2_with fail
            refine (AY.out _ (Below.refl _ _)).mono ?_
            rintro e w6 ⟨⟨at6, e', hne, rfl⟩, h6⟩
            have H6 := Lib.hid ((below_down HW3.out hBw).trans h6)
            clear h6
            go_wp2_with fail
            exact ⟨rfl, OnePost.no HV.out ⟨e', hne, rfl⟩ H6.out⟩
          | some q =>
            obtain ⟨its, s'⟩ := q
            rw [hx] at AY
            have HV := Lib.hid (show assignM F K kn slots (.mk k s nu ks ns at_) = some (.mk 13 noName 0 (fm) 0 its, s') by rw [HV0.out, hx])
            clear hx
            go_wp2_with fail
            refine (AY.out _ (Below.refl _ _)).mono ?_
            rintro e w6 ⟨v6, rfl, hit, hr6, hk6, hb6⟩
            obtain ⟨a6, c6, rfl, -⟩ := id hit.shape
            have x6 := hk6.keep (HR.out.later HW3.out) ((H03.out.block _ hl0).trans HQ2.out) (by decide) (by decide)
            have HZ := Lib.hid x6
            have y0 := cell_of_row w6 (w.heap.size + 1) 0 _ _ _ x6
            have y1 := cell_of_row w6 (w.heap.size + 1) 1 _ _ _ x6
            have y2 := cell_of_row w6 (w.heap.size + 1) 2 _ _ _ x6
            have y3 := cell_of_row w6 (w.heap.size + 1) 3 _ _ _ x6
            have y4 := cell_of_row w6 (w.heap.size + 1) 4 _ _ _ x6
            have y5 := cell_of_row w6 (w.heap.size + 1) 5 _ _ _ x6
            have yf : ∀ j, w6.frozen? ⟨w.heap.size + 1, j, none⟩ = false := (by intro j; unfold World.frozen?; rw [x6]; simp)
            simp at y0 y1 y2 y3 y4 y5
            have BD := Lib.hid (fun wF hg => box_done (Q := w.heap.size + 1) (wF := wF) HW3.out hpw hBw (by omega) (by omega) hk6 hb6 hr6 hit ⟨_, _, x6⟩ hg)
            clear hit hr6 hk6 hb6 x6
            go_wp2_with fail
            refine bodyPost_ret (v := .agg #[.int .i64 (13), .string (noName), .int .i64 (0), .int .i64 (fm), .int .i64 (0), (.slice a6 its.length c6)]) (results_cell_row Try.results47 _ _ (w.heap.size + 1) 73 #[.int .i64 (13), .string (noName), .int .i64 (0), .int .i64 (fm), .int .i64 (0), (.slice a6 its.length c6)] (0, 0) _ rfl (heap_set6 HZ.out _ _ _ _ _ _) Try.underlying73 rfl (by kernel_rfl)) rfl ?_
            have BE := BD.out _ (grownBy_set6 w6 (w.heap.size + 1) (.int .i64 13) (.string noName) (.int .i64 0) (.int .i64 (fm)) (.int .i64 0) (.slice a6 its.length c6))
            exact OnePost.yes HV.out rfl BE.1 trivial BE.2.1 BE.2.2.1 BE.2.2.2
end Go.Proofs.Ytpfgidhchjcomaa
