/- What a name means where it is asked. -/
import Derived.Test.YtpfgidhchjcomaaMeModel
namespace Go.Proofs.Ytpfgidhchjcomaa
open Go.RowKit
set_option linter.unusedVariables false
def VarPost (at_ : Int) (r : Option It) (e : Ending) : Prop :=
  match r with
  | none => Faulted at_ e
  | some i => e = .returned (itV i (.slice none 0 0))
set_option maxRecDepth 100000 in
set_option maxHeartbeats 3000000 in
theorem variable_any (B : Nat) (p : Nat) (kn : List Kn) (slots : Nat) (fv gv : Value) (F G : List ByteArray) (n : Nd) (kv nv : Value) (w : World) (h : RsAt B w p kn slots fv gv F G) (hsz : n.name.size ≤ maxLen) :
    Calls Try.prog 46 #[.pointer (some ⟨p, 0, none⟩), ndV n kv nv] w fun e w' => VarPost n.at_ (variableM F G kn n.name) e ∧ Below w.heap.size w w' := by
  obtain ⟨k, s, nu, ks, ns, at_⟩ := n
  replace hsz : s.size ≤ maxLen := hsz
  show Calls Try.prog 46 #[.pointer (some ⟨p, 0, none⟩), .agg #[.int .i64 k, .string s, .int .i64 nu, kv, nv, .int .i64 at_]] w fun e w' => VarPost at_ (variableM F G kn s) e ∧ Below w.heap.size w w'
  obtain ⟨hlp, v, c0, c1, c2, c3, cf, hk⟩ := h.get
  have HC := Lib.hid (show ∀ W, Below w.heap.size w W → W.cell? ⟨p, 0, none⟩ = some v ∧ W.cell? ⟨p, 2, none⟩ = some fv ∧ W.cell? ⟨p, 3, none⟩ = some gv from fun W hW => ⟨(hW.cell (p := ⟨p, 0, none⟩) hlp).trans c0, (hW.cell (p := ⟨p, 2, none⟩) hlp).trans c2, (hW.cell (p := ⟨p, 3, none⟩) hlp).trans c3⟩)
  have FA := Lib.hid (fun W (hW : Below w.heap.size w W) => find_any p _ kn s W ((HC.out W hW).1) (hk.later hW))
  have FD := Lib.hid (fun W (hW : Below w.heap.size w W) => field_any (· < B) p _ F s W ((HC.out W hW).2.1) (h.fs.later hW) h.nF)
  have GA := Lib.hid (fun W (hW : Below w.heap.size w W) => containsG_any (· < B) gv G s W (h.gs.later hW))
  have PA := Lib.hid (fun W => pseudo_any s W hsz)
  have hb0 : Below w.heap.size w ((w.alloc (.cells #[.int .i64 k, .string s, .int .i64 nu, kv, nv, .int .i64 at_] 30)).alloc (.cells #[.int .i64 0, .string ⟨#[]⟩, .int .i64 0, .int .i64 0, .int .i64 0, .slice none 0 0] 73)) := ((Below.refl _ _).alloc (Nat.le_refl _) _).alloc (by simp) _
  have hq1 : ((w.alloc (.cells #[.int .i64 k, .string s, .int .i64 nu, kv, nv, .int .i64 at_] 30)).alloc (.cells #[.int .i64 0, .string ⟨#[]⟩, .int .i64 0, .int .i64 0, .int .i64 0, .slice none 0 0] 73)).heap[w.heap.size]? = some (.cells #[.int .i64 k, .string s, .int .i64 nu, kv, nv, .int .i64 at_] 30 (0, 0)) := (heap_alloc_old _ _ _ (by simp)).trans (heap_alloc_new w _)
  have hq2 : ((w.alloc (.cells #[.int .i64 k, .string s, .int .i64 nu, kv, nv, .int .i64 at_] 30)).alloc (.cells #[.int .i64 0, .string ⟨#[]⟩, .int .i64 0, .int .i64 0, .int .i64 0, .slice none 0 0] 73)).heap[w.heap.size + 1]? = some (.cells #[.int .i64 0, .string ⟨#[]⟩, .int .i64 0, .int .i64 0, .int .i64 0, .slice none 0 0] 73 (0, 0)) := heap_alloc2_new w _ _
  have hsz0 : ((w.alloc (.cells #[.int .i64 k, .string s, .int .i64 nu, kv, nv, .int .i64 at_] 30)).alloc (.cells #[.int .i64 0, .string ⟨#[]⟩, .int .i64 0, .int .i64 0, .int .i64 0, .slice none 0 0] 73)).heap.size = w.heap.size + 2 := by simp
  clear h hk
  go_enter Try.func46, Try.ntmps46
  go_upto_region 1 with fail
  generalize ((w.alloc (.cells #[.int .i64 k, .string s, .int .i64 nu, kv, nv, .int .i64 at_] 30)).alloc (.cells #[.int .i64 0, .string ⟨#[]⟩, .int .i64 0, .int .i64 0, .int .i64 0, .slice none 0 0] 73)) = w0 at *
  have HB0 := Lib.hid hb0
  have HQ := Lib.hid (show ∀ W, Below w0.heap.size w0 W → W.heap[w.heap.size]? = some (.cells #[.int .i64 k, .string s, .int .i64 nu, kv, nv, .int .i64 at_] 30 (0, 0)) ∧ W.heap[w.heap.size + 1]? = some (.cells #[.int .i64 0, .string ⟨#[]⟩, .int .i64 0, .int .i64 0, .int .i64 0, .slice none 0 0] 73 (0, 0)) from fun W hW => ⟨(hW.block _ (by omega)).trans hq1, (hW.block _ (by omega)).trans hq2⟩)
  have cn0 := cell_of_row w0 w.heap.size 1 _ _ _ hq1
  simp at cn0
  clear hb0 hq1 hq2
  cases hp : pseudoM s with
  | some q0 =>
    have HV := Lib.hid (show variableM F G kn s = some (.mk q0 noName 0 0 0 []) by unfold variableM; rw [hp])
    have PX := Lib.hid (fun W => by have q := PA.out W; rw [hp] at q; exact (show Calls Try.prog 45 #[.string s] W fun e w' => e = .returned (.tuple #[.int .i64 q0, .bool true]) ∧ Below W.heap.size W w' from q))
    clear FA FD GA PA hp
    go_wp2_with fail
    refine (PX.out _).mono ?_
    rintro e w1 ⟨rfl, h1⟩
    have H1 := Lib.hid h1
    have z1 := h1.size
    have hl1 : w.heap.size + 2 ≤ w1.heap.size := by omega
    obtain ⟨n1, x1⟩ := HQ.out w1 h1
    have HW1 := Lib.hid (show Below w.heap.size w w1 from HB0.out.trans (h1.mono (by omega)))
    have hl1a : w.heap.size < w1.heap.size := by omega
    have hl1b : w.heap.size + 1 < w1.heap.size := by omega
    have cn1 := cell_of_row w1 w.heap.size 1 _ _ _ n1
    simp at cn1
    have HX1 := Lib.hid x1
    clear h1 n1
    have y0 := cell_of_row w1 (w.heap.size + 1) 0 _ _ _ x1
    have y1 := cell_of_row w1 (w.heap.size + 1) 1 _ _ _ x1
    have y2 := cell_of_row w1 (w.heap.size + 1) 2 _ _ _ x1
    have y3 := cell_of_row w1 (w.heap.size + 1) 3 _ _ _ x1
    have y4 := cell_of_row w1 (w.heap.size + 1) 4 _ _ _ x1
    have y5 := cell_of_row w1 (w.heap.size + 1) 5 _ _ _ x1
    have yf : ∀ j, w1.frozen? ⟨w.heap.size + 1, j, none⟩ = false := (by intro j; unfold World.frozen?; rw [x1]; simp)
    simp at y0 y1 y2 y3 y4 y5
    clear x1
    go_wp2_with fail
    refine bodyPost_ret (v := .agg #[.int .i64 (q0), .string noName, .int .i64 (0), .int .i64 (0), .int .i64 (0), .slice none 0 0]) (results_cell_row Try.results46 _ _ (w.heap.size + 1) 73 #[.int .i64 (q0), .string noName, .int .i64 (0), .int .i64 (0), .int .i64 (0), .slice none 0 0] (0, 0) _ rfl (heap_set6 HX1.out _ _ _ _ _ _) Try.underlying73 rfl (by kernel_rfl)) rfl ?_
    rw [HV.out]
    refine ⟨rfl, ?_⟩
    repeat (first | with_reducible exact Below.refl _ _ | ((with_reducible refine Below.setCell ?_ ?_ _); rotate_left; focus (first | (simp; done) | (simp; omega) | omega)) | ((with_reducible refine Below.alloc ?_ ?_ _); rotate_left; focus (first | (simp; done) | (simp; omega) | omega)) | (with_reducible refine Below.drew ?_) | ((with_reducible refine Below.trans ?_ (Below.mono HW1.out ?_)); rotate_left; focus (first | (simp; done) | (simp; omega) | omega)))
  | none =>
    cases hf : findM kn s with
    | some q1 =>
      have HV := Lib.hid (show variableM F G kn s = some (.mk 10 noName 0 (q1.slot : Int) 0 []) by unfold variableM; rw [hp]; simp only [hf])
      obtain ⟨a, PX⟩ : ∃ a : Int, Hid (∀ W, Calls Try.prog 45 #[.string s] W fun e w' => e = .returned (.tuple #[.int .i64 a, .bool false]) ∧ Below W.heap.size W w') := ⟨_, Lib.hid fun W => by have q := PA.out W; rw [hp] at q; exact q⟩
      have FX := Lib.hid (fun W hW => by have q := FA.out W hW; rw [hf] at q; exact (show Calls Try.prog 43 #[.pointer (some ⟨p, 0, none⟩), .string s] W fun e w' => e = .returned (.tuple #[.agg #[.string q1.name, .int .i64 (q1.slot : Int), .bool q1.set], .bool true]) ∧ Below W.heap.size W w' from q))
      clear FA FD GA PA hp hf
      go_wp2_with fail
      refine (PX.out _).mono ?_
      rintro e w1 ⟨rfl, h1⟩
      have H1 := Lib.hid h1
      have z1 := h1.size
      have hl1 : w.heap.size + 2 ≤ w1.heap.size := by omega
      obtain ⟨n1, x1⟩ := HQ.out w1 h1
      have HW1 := Lib.hid (show Below w.heap.size w w1 from HB0.out.trans (h1.mono (by omega)))
      have hl1a : w.heap.size < w1.heap.size := by omega
      have hl1b : w.heap.size + 1 < w1.heap.size := by omega
      have cn1 := cell_of_row w1 w.heap.size 1 _ _ _ n1
      simp at cn1
      have HX1 := Lib.hid x1
      clear h1 n1
      go_wp2_with fail
      refine (FX.out _ HW1.out).mono ?_
      rintro e w2 ⟨rfl, h2⟩
      have z2 := h2.size
      have H2 := Lib.hid (H1.out.trans (h2.mono z1))
      have HW2 := Lib.hid (HW1.out.trans (h2.mono HW1.out.size))
      obtain ⟨n2, x2⟩ := HQ.out w2 H2.out
      have hl2a : w.heap.size < w2.heap.size := by omega
      have hl2b : w.heap.size + 1 < w2.heap.size := by omega
      have cn2 := cell_of_row w2 w.heap.size 1 _ _ _ n2
      simp at cn2
      have HX2 := Lib.hid x2
      clear h2 n2
      have y0 := cell_of_row w2 (w.heap.size + 1) 0 _ _ _ x2
      have y1 := cell_of_row w2 (w.heap.size + 1) 1 _ _ _ x2
      have y2 := cell_of_row w2 (w.heap.size + 1) 2 _ _ _ x2
      have y3 := cell_of_row w2 (w.heap.size + 1) 3 _ _ _ x2
      have y4 := cell_of_row w2 (w.heap.size + 1) 4 _ _ _ x2
      have y5 := cell_of_row w2 (w.heap.size + 1) 5 _ _ _ x2
      have yf : ∀ j, w2.frozen? ⟨w.heap.size + 1, j, none⟩ = false := (by intro j; unfold World.frozen?; rw [x2]; simp)
      simp at y0 y1 y2 y3 y4 y5
      have HX2a := Lib.hid (fun o : Obj => (heap_alloc_old w2 o _ hl2b).trans x2)
      clear x2 x1
      go_wp2_with fail
      refine bodyPost_ret (v := .agg #[.int .i64 (10), .string noName, .int .i64 (0), .int .i64 (q1.slot : Int), .int .i64 (0), .slice none 0 0]) (results_cell_row Try.results46 _ _ (w.heap.size + 1) 73 #[.int .i64 (10), .string noName, .int .i64 (0), .int .i64 (q1.slot : Int), .int .i64 (0), .slice none 0 0] (0, 0) _ rfl ((heap_alloc_old _ _ _ (by simp; omega)).trans (heap_set6 HX2.out _ _ _ _ _ _)) Try.underlying73 rfl (by kernel_rfl)) rfl ?_
      rw [HV.out]
      refine ⟨rfl, ?_⟩
      repeat (first | with_reducible exact Below.refl _ _ | ((with_reducible refine Below.setCell ?_ ?_ _); rotate_left; focus (first | (simp; done) | (simp; omega) | omega)) | ((with_reducible refine Below.alloc ?_ ?_ _); rotate_left; focus (first | (simp; done) | (simp; omega) | omega)) | (with_reducible refine Below.drew ?_) | ((with_reducible refine Below.trans ?_ (Below.mono HW2.out ?_)); rotate_left; focus (first | (simp; done) | (simp; omega) | omega)))
    | none =>
      obtain ⟨a, PX⟩ : ∃ a : Int, Hid (∀ W, Calls Try.prog 45 #[.string s] W fun e w' => e = .returned (.tuple #[.int .i64 a, .bool false]) ∧ Below W.heap.size W w') := ⟨_, Lib.hid fun W => by have q := PA.out W; rw [hp] at q; exact q⟩
      have FX := Lib.hid (fun W hW => by have q := FA.out W hW; rw [hf] at q; exact (show Calls Try.prog 43 #[.pointer (some ⟨p, 0, none⟩), .string s] W fun e w' => e = .returned (.tuple #[.agg #[.string ⟨#[]⟩, .int .i64 0, .bool false], .bool false]) ∧ Below W.heap.size W w' from q))
      have HV0 := Lib.hid (show variableM F G kn s = (if 0 ≤ fieldM F s then some (.mk 11 noName 0 (fieldM F s) 0 []) else if (s.toList == superL) = true then none else if hasM G s = true then some (.mk 9 s 0 0 0 []) else none) by unfold variableM; rw [hp]; simp only [hf])
      clear FA PA hp hf
      generalize fieldM F s = fm at *
      by_cases hd : 0 ≤ fm
      · have HV := Lib.hid (HV0.out.trans (if_pos hd))
        clear GA
        go_wp2_with fail
        refine (PX.out _).mono ?_
        rintro e w1 ⟨rfl, h1⟩
        have H1 := Lib.hid h1
        have z1 := h1.size
        have hl1 : w.heap.size + 2 ≤ w1.heap.size := by omega
        obtain ⟨n1, x1⟩ := HQ.out w1 h1
        have HW1 := Lib.hid (show Below w.heap.size w w1 from HB0.out.trans (h1.mono (by omega)))
        have hl1a : w.heap.size < w1.heap.size := by omega
        have hl1b : w.heap.size + 1 < w1.heap.size := by omega
        have cn1 := cell_of_row w1 w.heap.size 1 _ _ _ n1
        simp at cn1
        have HX1 := Lib.hid x1
        clear h1 n1
        go_wp2_with fail
        refine (FX.out _ HW1.out).mono ?_
        rintro e w2 ⟨rfl, h2⟩
        have z2 := h2.size
        have H2 := Lib.hid (H1.out.trans (h2.mono z1))
        have HW2 := Lib.hid (HW1.out.trans (h2.mono HW1.out.size))
        obtain ⟨n2, x2⟩ := HQ.out w2 H2.out
        have hl2a : w.heap.size < w2.heap.size := by omega
        have hl2b : w.heap.size + 1 < w2.heap.size := by omega
        have cn2 := cell_of_row w2 w.heap.size 1 _ _ _ n2
        simp at cn2
        have HX2 := Lib.hid x2
        clear h2 n2
        clear x1 x2
        go_wp2_with fail
        refine (FD.out _ (HW2.out.alloc HW2.out.size _)).mono ?_
        rintro e w3 ⟨rfl, h3⟩
        have z3 := h3.size
        simp at z3
        have H3 := Lib.hid ((H2.out.alloc H2.out.size _).trans (h3.mono (by simp; omega)))
        have HW3 := Lib.hid (HB0.out.trans (H3.out.mono (by omega)))
        obtain ⟨n3, x3⟩ := HQ.out w3 H3.out
        have hl3b : w.heap.size + 1 < w3.heap.size := by omega
        have cn3 := cell_of_row w3 w.heap.size 1 _ _ _ n3
        have cn35 := cell_of_row w3 w.heap.size 5 _ _ _ n3
        simp at cn3 cn35
        have HX3 := Lib.hid x3
        obtain ⟨-, -, d3⟩ := HC.out w3 HW3.out
        have hp3 : p < w3.heap.size := lt_of_cell d3
        have hn3 : w.heap.size < w3.heap.size := lt_of_cell cn3
        clear h3 n3
        have y0 := cell_of_row w3 (w.heap.size + 1) 0 _ _ _ x3
        have y1 := cell_of_row w3 (w.heap.size + 1) 1 _ _ _ x3
        have y2 := cell_of_row w3 (w.heap.size + 1) 2 _ _ _ x3
        have y3 := cell_of_row w3 (w.heap.size + 1) 3 _ _ _ x3
        have y4 := cell_of_row w3 (w.heap.size + 1) 4 _ _ _ x3
        have y5 := cell_of_row w3 (w.heap.size + 1) 5 _ _ _ x3
        have yf : ∀ j, w3.frozen? ⟨w.heap.size + 1, j, none⟩ = false := (by intro j; unfold World.frozen?; rw [x3]; simp)
        simp at y0 y1 y2 y3 y4 y5
        clear x3
        go_wp2_with fail
        refine bodyPost_ret (v := .agg #[.int .i64 (11), .string noName, .int .i64 (0), .int .i64 (fm), .int .i64 (0), .slice none 0 0]) (results_cell_row Try.results46 _ _ (w.heap.size + 1) 73 #[.int .i64 (11), .string noName, .int .i64 (0), .int .i64 (fm), .int .i64 (0), .slice none 0 0] (0, 0) _ rfl (heap_set6 HX3.out _ _ _ _ _ _) Try.underlying73 rfl (by kernel_rfl)) rfl ?_
        rw [HV.out]
        refine ⟨rfl, ?_⟩
        repeat (first | with_reducible exact Below.refl _ _ | ((with_reducible refine Below.setCell ?_ ?_ _); rotate_left; focus (first | (simp; done) | (simp; omega) | omega)) | ((with_reducible refine Below.alloc ?_ ?_ _); rotate_left; focus (first | (simp; done) | (simp; omega) | omega)) | (with_reducible refine Below.drew ?_) | ((with_reducible refine Below.trans ?_ (Below.mono HW3.out ?_)); rotate_left; focus (first | (simp; done) | (simp; omega) | omega)))
      · have hd' : decide (0 ≤ fm) = false := by simpa using hd
        cases hs : (s.toList == superL) with
        | true =>
          have HV := Lib.hid ((HV0.out.trans (if_neg hd)).trans (if_pos hs))
          have hs' : (s.toList == [115, 117, 112, 101, 114]) = true := hs
          clear GA hs hd
          go_wp2_with fail
          refine (PX.out _).mono ?_
          rintro e w1 ⟨rfl, h1⟩
          have H1 := Lib.hid h1
          have z1 := h1.size
          have hl1 : w.heap.size + 2 ≤ w1.heap.size := by omega
          obtain ⟨n1, x1⟩ := HQ.out w1 h1
          have HW1 := Lib.hid (show Below w.heap.size w w1 from HB0.out.trans (h1.mono (by omega)))
          have hl1a : w.heap.size < w1.heap.size := by omega
          have hl1b : w.heap.size + 1 < w1.heap.size := by omega
          have cn1 := cell_of_row w1 w.heap.size 1 _ _ _ n1
          simp at cn1
          have HX1 := Lib.hid x1
          clear h1 n1
          go_wp2_with fail
          refine (FX.out _ HW1.out).mono ?_
          rintro e w2 ⟨rfl, h2⟩
          have z2 := h2.size
          have H2 := Lib.hid (H1.out.trans (h2.mono z1))
          have HW2 := Lib.hid (HW1.out.trans (h2.mono HW1.out.size))
          obtain ⟨n2, x2⟩ := HQ.out w2 H2.out
          have hl2a : w.heap.size < w2.heap.size := by omega
          have hl2b : w.heap.size + 1 < w2.heap.size := by omega
          have cn2 := cell_of_row w2 w.heap.size 1 _ _ _ n2
          simp at cn2
          have HX2 := Lib.hid x2
          clear h2 n2
          clear x1 x2
          go_wp2_with fail
          refine (FD.out _ (HW2.out.alloc HW2.out.size _)).mono ?_
          rintro e w3 ⟨rfl, h3⟩
          have z3 := h3.size
          simp at z3
          have H3 := Lib.hid ((H2.out.alloc H2.out.size _).trans (h3.mono (by simp; omega)))
          have HW3 := Lib.hid (HB0.out.trans (H3.out.mono (by omega)))
          obtain ⟨n3, x3⟩ := HQ.out w3 H3.out
          have hl3b : w.heap.size + 1 < w3.heap.size := by omega
          have cn3 := cell_of_row w3 w.heap.size 1 _ _ _ n3
          have cn35 := cell_of_row w3 w.heap.size 5 _ _ _ n3
          simp at cn3 cn35
          have HX3 := Lib.hid x3
          obtain ⟨-, -, d3⟩ := HC.out w3 HW3.out
          have hp3 : p < w3.heap.size := lt_of_cell d3
          have hn3 : w.heap.size < w3.heap.size := lt_of_cell cn3
          clear h3 n3
          go_wp2_with fail
          (refine wp_region_later (by kernel_rfl) (by kernel_rfl) ?_; (repeat (go_big_quiet_step ((fail)))); refine wpQuiet_nil ?_; intro w4 hw4; have hg := later_elim hw4; clear hw4)
          have z4 := hg.size
          have HG := Lib.hid (HW3.out.trans (hg.mono HW3.out.size))
          have cn45 : w4.cell? ⟨w.heap.size, 5, none⟩ = some (.int .i64 at_) := (hg.cell (p := ⟨w.heap.size, 5, none⟩) hn3).trans cn35
          clear hg
          go_wp2_with fail
          exact ⟨rfl, by rw [HV.out]; exact ⟨_, by decide, rfl⟩, HG.out⟩
        | false =>
          have hs' : (s.toList == [115, 117, 112, 101, 114]) = false := hs
          cases hh : hasM G s with
          | true =>
            have HV := Lib.hid (((HV0.out.trans (if_neg hd)).trans (if_neg (by rw [hs]; simp))).trans (if_pos hh))
            have GX := Lib.hid (fun W hW => by have q := GA.out W hW; rw [hh] at q; exact q)
            clear GA hs hd hh
            go_wp2_with fail
            refine (PX.out _).mono ?_
            rintro e w1 ⟨rfl, h1⟩
            have H1 := Lib.hid h1
            have z1 := h1.size
            have hl1 : w.heap.size + 2 ≤ w1.heap.size := by omega
            obtain ⟨n1, x1⟩ := HQ.out w1 h1
            have HW1 := Lib.hid (show Below w.heap.size w w1 from HB0.out.trans (h1.mono (by omega)))
            have hl1a : w.heap.size < w1.heap.size := by omega
            have hl1b : w.heap.size + 1 < w1.heap.size := by omega
            have cn1 := cell_of_row w1 w.heap.size 1 _ _ _ n1
            simp at cn1
            have HX1 := Lib.hid x1
            clear h1 n1
            go_wp2_with fail
            refine (FX.out _ HW1.out).mono ?_
            rintro e w2 ⟨rfl, h2⟩
            have z2 := h2.size
            have H2 := Lib.hid (H1.out.trans (h2.mono z1))
            have HW2 := Lib.hid (HW1.out.trans (h2.mono HW1.out.size))
            obtain ⟨n2, x2⟩ := HQ.out w2 H2.out
            have hl2a : w.heap.size < w2.heap.size := by omega
            have hl2b : w.heap.size + 1 < w2.heap.size := by omega
            have cn2 := cell_of_row w2 w.heap.size 1 _ _ _ n2
            simp at cn2
            have HX2 := Lib.hid x2
            clear h2 n2
            clear x1 x2
            go_wp2_with fail
            refine (FD.out _ (HW2.out.alloc HW2.out.size _)).mono ?_
            rintro e w3 ⟨rfl, h3⟩
            have z3 := h3.size
            simp at z3
            have H3 := Lib.hid ((H2.out.alloc H2.out.size _).trans (h3.mono (by simp; omega)))
            have HW3 := Lib.hid (HB0.out.trans (H3.out.mono (by omega)))
            obtain ⟨n3, x3⟩ := HQ.out w3 H3.out
            have hl3b : w.heap.size + 1 < w3.heap.size := by omega
            have cn3 := cell_of_row w3 w.heap.size 1 _ _ _ n3
            have cn35 := cell_of_row w3 w.heap.size 5 _ _ _ n3
            simp at cn3 cn35
            have HX3 := Lib.hid x3
            obtain ⟨-, -, d3⟩ := HC.out w3 HW3.out
            have hp3 : p < w3.heap.size := lt_of_cell d3
            have hn3 : w.heap.size < w3.heap.size := lt_of_cell cn3
            clear h3 n3
            have GY := Lib.hid (show ∀ W, Below w3.heap.size w3 W → Calls Try.prog 71 #[gv, .string s] W fun e w' => e = .returned (.bool true) ∧ Below W.heap.size W w' from fun W hW => GX.out W (HW3.out.trans (hW.mono HW3.out.size)))
            go_wp2_with fail
            (refine wp_region_later (by kernel_rfl) (by kernel_rfl) ?_; (repeat (go_big_quiet_step (((go_at_call 71; exact calls_later_if GY.out))))); refine wpQuiet_nil ?_; intro w4 hw4; have hg := later_elim hw4; clear hw4)
            have z4 := hg.size
            have HG := Lib.hid (HW3.out.trans (hg.mono HW3.out.size))
            have cn41 : w4.cell? ⟨w.heap.size, 1, none⟩ = some (.string s) := (hg.cell (p := ⟨w.heap.size, 1, none⟩) hn3).trans cn3
            have x4 : w4.heap[w.heap.size + 1]? = _ := (hg.block (w.heap.size + 1) (by omega)).trans HX3.out
            have HX4 := Lib.hid x4
            have y0 := cell_of_row w4 (w.heap.size + 1) 0 _ _ _ x4
            have y1 := cell_of_row w4 (w.heap.size + 1) 1 _ _ _ x4
            have y2 := cell_of_row w4 (w.heap.size + 1) 2 _ _ _ x4
            have y3 := cell_of_row w4 (w.heap.size + 1) 3 _ _ _ x4
            have y4 := cell_of_row w4 (w.heap.size + 1) 4 _ _ _ x4
            have y5 := cell_of_row w4 (w.heap.size + 1) 5 _ _ _ x4
            have yf : ∀ j, w4.frozen? ⟨w.heap.size + 1, j, none⟩ = false := (by intro j; unfold World.frozen?; rw [x4]; simp)
            simp at y0 y1 y2 y3 y4 y5
            clear x4 hg x3
            go_wp2_with fail
            refine bodyPost_ret (v := .agg #[.int .i64 (9), .string s, .int .i64 (0), .int .i64 (0), .int .i64 (0), .slice none 0 0]) (results_cell_row Try.results46 _ _ (w.heap.size + 1) 73 #[.int .i64 (9), .string s, .int .i64 (0), .int .i64 (0), .int .i64 (0), .slice none 0 0] (0, 0) _ rfl (heap_set6 HX4.out _ _ _ _ _ _) Try.underlying73 rfl (by kernel_rfl)) rfl ?_
            rw [HV.out]
            refine ⟨rfl, ?_⟩
            repeat (first | with_reducible exact Below.refl _ _ | ((with_reducible refine Below.setCell ?_ ?_ _); rotate_left; focus (first | (simp; done) | (simp; omega) | omega)) | ((with_reducible refine Below.alloc ?_ ?_ _); rotate_left; focus (first | (simp; done) | (simp; omega) | omega)) | (with_reducible refine Below.drew ?_) | ((with_reducible refine Below.trans ?_ (Below.mono HG.out ?_)); rotate_left; focus (first | (simp; done) | (simp; omega) | omega)))
          | false =>
            have HV := Lib.hid (((HV0.out.trans (if_neg hd)).trans (if_neg (by rw [hs]; simp))).trans (if_neg (by rw [hh]; simp)))
            have GX := Lib.hid (fun W hW => by have q := GA.out W hW; rw [hh] at q; exact q)
            clear GA hs hd hh
            go_wp2_with fail
            refine (PX.out _).mono ?_
            rintro e w1 ⟨rfl, h1⟩
            have H1 := Lib.hid h1
            have z1 := h1.size
            have hl1 : w.heap.size + 2 ≤ w1.heap.size := by omega
            obtain ⟨n1, x1⟩ := HQ.out w1 h1
            have HW1 := Lib.hid (show Below w.heap.size w w1 from HB0.out.trans (h1.mono (by omega)))
            have hl1a : w.heap.size < w1.heap.size := by omega
            have hl1b : w.heap.size + 1 < w1.heap.size := by omega
            have cn1 := cell_of_row w1 w.heap.size 1 _ _ _ n1
            simp at cn1
            have HX1 := Lib.hid x1
            clear h1 n1
            go_wp2_with fail
            refine (FX.out _ HW1.out).mono ?_
            rintro e w2 ⟨rfl, h2⟩
            have z2 := h2.size
            have H2 := Lib.hid (H1.out.trans (h2.mono z1))
            have HW2 := Lib.hid (HW1.out.trans (h2.mono HW1.out.size))
            obtain ⟨n2, x2⟩ := HQ.out w2 H2.out
            have hl2a : w.heap.size < w2.heap.size := by omega
            have hl2b : w.heap.size + 1 < w2.heap.size := by omega
            have cn2 := cell_of_row w2 w.heap.size 1 _ _ _ n2
            simp at cn2
            have HX2 := Lib.hid x2
            clear h2 n2
            clear x1 x2
            go_wp2_with fail
            refine (FD.out _ (HW2.out.alloc HW2.out.size _)).mono ?_
            rintro e w3 ⟨rfl, h3⟩
            have z3 := h3.size
            simp at z3
            have H3 := Lib.hid ((H2.out.alloc H2.out.size _).trans (h3.mono (by simp; omega)))
            have HW3 := Lib.hid (HB0.out.trans (H3.out.mono (by omega)))
            obtain ⟨n3, x3⟩ := HQ.out w3 H3.out
            have hl3b : w.heap.size + 1 < w3.heap.size := by omega
            have cn3 := cell_of_row w3 w.heap.size 1 _ _ _ n3
            have cn35 := cell_of_row w3 w.heap.size 5 _ _ _ n3
            simp at cn3 cn35
            have HX3 := Lib.hid x3
            obtain ⟨-, -, d3⟩ := HC.out w3 HW3.out
            have hp3 : p < w3.heap.size := lt_of_cell d3
            have hn3 : w.heap.size < w3.heap.size := lt_of_cell cn3
            clear h3 n3
            have GY := Lib.hid (show ∀ W, Below w3.heap.size w3 W → Calls Try.prog 71 #[gv, .string s] W fun e w' => e = .returned (.bool false) ∧ Below W.heap.size W w' from fun W hW => GX.out W (HW3.out.trans (hW.mono HW3.out.size)))
            go_wp2_with fail
            (refine wp_region_later (by kernel_rfl) (by kernel_rfl) ?_; (repeat (go_big_quiet_step (((go_at_call 71; exact calls_later_if GY.out))))); refine wpQuiet_nil ?_; intro w4 hw4; have hg := later_elim hw4; clear hw4)
            have z4 := hg.size
            have HG := Lib.hid (HW3.out.trans (hg.mono HW3.out.size))
            have cn45 : w4.cell? ⟨w.heap.size, 5, none⟩ = some (.int .i64 at_) := (hg.cell (p := ⟨w.heap.size, 5, none⟩) hn3).trans cn35
            clear hg
            go_wp2_with fail
            exact ⟨rfl, by rw [HV.out]; exact ⟨_, by decide, rfl⟩, HG.out⟩
end Go.Proofs.Ytpfgidhchjcomaa
