/- A name more is declared, or refused. -/
import Derived.Test.YtpfgidhchjcomaaMeRead
namespace Go.Proofs.Ytpfgidhchjcomaa
open Go.RowKit
set_option linter.unusedVariables false
def superL : List UInt8 := [115, 117, 112, 101, 114]
def declBad (F : List ByteArray) (kn : List Kn) (slots : Nat) (s : ByteArray) (n : Int) : Bool := (findM kn s).isSome || decide (0 ≤ fieldM F s) || (pseudoM s).isSome || (s.toList == superL) || decide (60 ≤ slots) || decide (12 < n)
def faultV (at_ e' : Int) : Value := .iface 52 (.agg #[.int .i64 at_, .int .i64 e'])
def Faulted (at_ : Int) (e : Ending) : Prop := ∃ e' : Int, e' ≠ 0 ∧ e = .panicked [{ v := faultV at_ e', recovered := false }]
set_option maxRecDepth 100000 in
set_option maxHeartbeats 4000000 in
theorem declare_no (B : Nat) (p : Nat) (kn : List Kn) (slots : Nat) (fv gv : Value) (F G : List ByteArray) (s : ByteArray) (n at_ : Int) (w : World) (h : RsAt B w p kn slots fv gv F G) (hsz : s.size ≤ maxLen) (hsl : slots ≤ 1000) (hbad : declBad F kn slots s n = true) :
    Calls Try.prog 27 #[.pointer (some ⟨p, 0, none⟩), .string s, .int .i64 n, .int .i64 at_] w fun e w' => Faulted at_ e ∧ Below w.heap.size w w' := by
  obtain ⟨hlp, v, c0, c1, c2, c3, cf, hk⟩ := h.get
  obtain ⟨va, vc, rfl, hv1, hv2⟩ := hk.shape
  obtain ⟨fa, fc, rfl, -⟩ := id h.fs
  have HC := Lib.hid (show ∀ W, Below w.heap.size w W → W.cell? ⟨p, 0, none⟩ = some (.slice va kn.length vc) ∧ W.cell? ⟨p, 1, none⟩ = some (.int .i64 (slots : Int)) ∧ W.cell? ⟨p, 2, none⟩ = some (.slice fa F.length fc) ∧ W.frozen? ⟨p, 0, none⟩ = false ∧ W.frozen? ⟨p, 1, none⟩ = false from fun W hW => ⟨(hW.cell (p := ⟨p, 0, none⟩) hlp).trans c0, (hW.cell (p := ⟨p, 1, none⟩) hlp).trans c1, (hW.cell (p := ⟨p, 2, none⟩) hlp).trans c2, (hW.frozen (p := ⟨p, 0, none⟩) hlp).trans (cf 0), (hW.frozen (p := ⟨p, 1, none⟩) hlp).trans (cf 1)⟩)
  have FA := Lib.hid (fun W (hW : Below w.heap.size w W) => find_any p _ kn s W ((HC.out W hW).1) (hk.later hW))
  have FD := Lib.hid (fun W (hW : Below w.heap.size w W) => field_any (· < B) p _ F s W ((HC.out W hW).2.2.1) (h.fs.later hW) h.nF)
  have PA := Lib.hid (fun W => pseudo_any s W hsz)
  unfold declBad at hbad
  cases hf : (findM kn s).isSome with
  | true =>
    clear FD
    obtain ⟨k, hfm⟩ := Option.isSome_iff_exists.1 hf
    have FX := Lib.hid (show ∀ W, Below w.heap.size w W → Calls Try.prog 43 #[.pointer (some ⟨p, 0, none⟩), .string s] W fun e w' => e = .returned (.tuple #[.agg #[.string k.name, .int .i64 (k.slot : Int), .bool k.set], .bool true]) ∧ Below W.heap.size W w' from fun W hW => by have q := FA.out W hW; rw [hfm] at q; exact q)
    clear hfm hf
    cases hp : (pseudoM s).isSome with
    | true =>
      obtain ⟨a, PX⟩ : ∃ a : Int, Hid (∀ W, Calls Try.prog 45 #[.string s] W fun e w' => e = .returned (.tuple #[.int .i64 a, .bool true]) ∧ Below W.heap.size W w') := ⟨_, Lib.hid fun W => by have q := PA.out W; rw [hp] at q; exact q⟩
      clear FA PA hp
      by_cases hz1 : 60 ≤ slots
      · have s1 : (60 : Int) ≤ (slots : Int) := by omega
        clear hz1 hbad
        go_enter Try.func27, Try.ntmps27
        go_wp2_with fail
        refine (FX.out _ (Below.refl _ _)).mono ?_
        rintro e w1 ⟨rfl, h1⟩
        have H1 := Lib.hid h1
        have z1 := h1.size
        clear h1
        go_wp2_with fail
        refine (PX.out _).mono ?_
        rintro e w3 ⟨rfl, h3⟩
        have H3 := Lib.hid ((H1.out.alloc H1.out.size _).trans (h3.mono (by simp; omega)))
        clear h3 H1
        obtain ⟨d0, d1, d2, d3, d4⟩ := HC.out w3 H3.out
        go_wp2_with fail
        exact ⟨rfl, ⟨_, by decide, rfl⟩, H3.out⟩
      · have s1 : ¬ (60 : Int) ≤ (slots : Int) := by omega
        by_cases hz2 : 12 < n
        · clear hz1 hbad
          go_enter Try.func27, Try.ntmps27
          go_wp2_with fail
          refine (FX.out _ (Below.refl _ _)).mono ?_
          rintro e w1 ⟨rfl, h1⟩
          have H1 := Lib.hid h1
          have z1 := h1.size
          clear h1
          go_wp2_with fail
          refine (PX.out _).mono ?_
          rintro e w3 ⟨rfl, h3⟩
          have H3 := Lib.hid ((H1.out.alloc H1.out.size _).trans (h3.mono (by simp; omega)))
          clear h3 H1
          obtain ⟨d0, d1, d2, d3, d4⟩ := HC.out w3 H3.out
          go_wp2_with fail
          exact ⟨rfl, ⟨_, by decide, rfl⟩, H3.out⟩
        · clear hz1 hbad
          go_enter Try.func27, Try.ntmps27
          go_wp2_with fail
          refine (FX.out _ (Below.refl _ _)).mono ?_
          rintro e w1 ⟨rfl, h1⟩
          have H1 := Lib.hid h1
          have z1 := h1.size
          clear h1
          go_wp2_with fail
          refine (PX.out _).mono ?_
          rintro e w3 ⟨rfl, h3⟩
          have H3 := Lib.hid ((H1.out.alloc H1.out.size _).trans (h3.mono (by simp; omega)))
          clear h3 H1
          obtain ⟨d0, d1, d2, d3, d4⟩ := HC.out w3 H3.out
          go_wp2_with fail
          exact ⟨rfl, ⟨_, by decide, rfl⟩, H3.out⟩
    | false =>
      cases hs : (s.toList == superL) with
      | true =>
        obtain ⟨a, PX⟩ : ∃ a : Int, Hid (∀ W, Calls Try.prog 45 #[.string s] W fun e w' => e = .returned (.tuple #[.int .i64 a, .bool false]) ∧ Below W.heap.size W w') := ⟨_, Lib.hid fun W => by have q := PA.out W; rw [hp] at q; exact q⟩
        have hs' : (s.toList == [115, 117, 112, 101, 114]) = true := hs
        clear FA PA hp hs
        by_cases hz1 : 60 ≤ slots
        · have s1 : (60 : Int) ≤ (slots : Int) := by omega
          clear hz1 hbad
          go_enter Try.func27, Try.ntmps27
          go_wp2_with fail
          refine (FX.out _ (Below.refl _ _)).mono ?_
          rintro e w1 ⟨rfl, h1⟩
          have H1 := Lib.hid h1
          have z1 := h1.size
          clear h1
          go_wp2_with fail
          refine (PX.out _).mono ?_
          rintro e w3 ⟨rfl, h3⟩
          have H3 := Lib.hid ((H1.out.alloc H1.out.size _).trans (h3.mono (by simp; omega)))
          clear h3 H1
          obtain ⟨d0, d1, d2, d3, d4⟩ := HC.out w3 H3.out
          go_wp2_with fail
          exact ⟨rfl, ⟨_, by decide, rfl⟩, H3.out⟩
        · have s1 : ¬ (60 : Int) ≤ (slots : Int) := by omega
          by_cases hz2 : 12 < n
          · clear hz1 hbad
            go_enter Try.func27, Try.ntmps27
            go_wp2_with fail
            refine (FX.out _ (Below.refl _ _)).mono ?_
            rintro e w1 ⟨rfl, h1⟩
            have H1 := Lib.hid h1
            have z1 := h1.size
            clear h1
            go_wp2_with fail
            refine (PX.out _).mono ?_
            rintro e w3 ⟨rfl, h3⟩
            have H3 := Lib.hid ((H1.out.alloc H1.out.size _).trans (h3.mono (by simp; omega)))
            clear h3 H1
            obtain ⟨d0, d1, d2, d3, d4⟩ := HC.out w3 H3.out
            go_wp2_with fail
            exact ⟨rfl, ⟨_, by decide, rfl⟩, H3.out⟩
          · clear hz1 hbad
            go_enter Try.func27, Try.ntmps27
            go_wp2_with fail
            refine (FX.out _ (Below.refl _ _)).mono ?_
            rintro e w1 ⟨rfl, h1⟩
            have H1 := Lib.hid h1
            have z1 := h1.size
            clear h1
            go_wp2_with fail
            refine (PX.out _).mono ?_
            rintro e w3 ⟨rfl, h3⟩
            have H3 := Lib.hid ((H1.out.alloc H1.out.size _).trans (h3.mono (by simp; omega)))
            clear h3 H1
            obtain ⟨d0, d1, d2, d3, d4⟩ := HC.out w3 H3.out
            go_wp2_with fail
            exact ⟨rfl, ⟨_, by decide, rfl⟩, H3.out⟩
      | false =>
        obtain ⟨a, PX⟩ : ∃ a : Int, Hid (∀ W, Calls Try.prog 45 #[.string s] W fun e w' => e = .returned (.tuple #[.int .i64 a, .bool false]) ∧ Below W.heap.size W w') := ⟨_, Lib.hid fun W => by have q := PA.out W; rw [hp] at q; exact q⟩
        have hs' : (s.toList == [115, 117, 112, 101, 114]) = false := hs
        clear FA PA hp hs
        by_cases hz1 : 60 ≤ slots
        · have s1 : (60 : Int) ≤ (slots : Int) := by omega
          clear hz1 hbad
          go_enter Try.func27, Try.ntmps27
          go_wp2_with fail
          refine (FX.out _ (Below.refl _ _)).mono ?_
          rintro e w1 ⟨rfl, h1⟩
          have H1 := Lib.hid h1
          have z1 := h1.size
          clear h1
          go_wp2_with fail
          refine (PX.out _).mono ?_
          rintro e w3 ⟨rfl, h3⟩
          have H3 := Lib.hid ((H1.out.alloc H1.out.size _).trans (h3.mono (by simp; omega)))
          clear h3 H1
          obtain ⟨d0, d1, d2, d3, d4⟩ := HC.out w3 H3.out
          go_wp2_with fail
          exact ⟨rfl, ⟨_, by decide, rfl⟩, H3.out⟩
        · have s1 : ¬ (60 : Int) ≤ (slots : Int) := by omega
          by_cases hz2 : 12 < n
          · clear hz1 hbad
            go_enter Try.func27, Try.ntmps27
            go_wp2_with fail
            refine (FX.out _ (Below.refl _ _)).mono ?_
            rintro e w1 ⟨rfl, h1⟩
            have H1 := Lib.hid h1
            have z1 := h1.size
            clear h1
            go_wp2_with fail
            refine (PX.out _).mono ?_
            rintro e w3 ⟨rfl, h3⟩
            have H3 := Lib.hid ((H1.out.alloc H1.out.size _).trans (h3.mono (by simp; omega)))
            clear h3 H1
            obtain ⟨d0, d1, d2, d3, d4⟩ := HC.out w3 H3.out
            go_wp2_with fail
            exact ⟨rfl, ⟨_, by decide, rfl⟩, H3.out⟩
          · clear hz1 hbad
            go_enter Try.func27, Try.ntmps27
            go_wp2_with fail
            refine (FX.out _ (Below.refl _ _)).mono ?_
            rintro e w1 ⟨rfl, h1⟩
            have H1 := Lib.hid h1
            have z1 := h1.size
            clear h1
            go_wp2_with fail
            refine (PX.out _).mono ?_
            rintro e w3 ⟨rfl, h3⟩
            have H3 := Lib.hid ((H1.out.alloc H1.out.size _).trans (h3.mono (by simp; omega)))
            clear h3 H1
            obtain ⟨d0, d1, d2, d3, d4⟩ := HC.out w3 H3.out
            go_wp2_with fail
            exact ⟨rfl, ⟨_, by decide, rfl⟩, H3.out⟩
  | false =>
    by_cases hd : 0 ≤ fieldM F s
    · have hfm : findM kn s = none := by simpa using hf
      have FX := Lib.hid (show ∀ W, Below w.heap.size w W → Calls Try.prog 43 #[.pointer (some ⟨p, 0, none⟩), .string s] W fun e w' => e = .returned (.tuple #[.agg #[.string ⟨#[]⟩, .int .i64 0, .bool false], .bool false]) ∧ Below W.heap.size W w' from fun W hW => by have q := FA.out W hW; rw [hfm] at q; exact q)
      clear hfm hf
      have g1 : decide (0 ≤ fieldM F s) = true := by simpa using hd
      generalize fieldM F s = fm at *
      cases hp : (pseudoM s).isSome with
      | true =>
        obtain ⟨a, PX⟩ : ∃ a : Int, Hid (∀ W, Calls Try.prog 45 #[.string s] W fun e w' => e = .returned (.tuple #[.int .i64 a, .bool true]) ∧ Below W.heap.size W w') := ⟨_, Lib.hid fun W => by have q := PA.out W; rw [hp] at q; exact q⟩
        clear FA PA hp
        by_cases hz1 : 60 ≤ slots
        · have s1 : (60 : Int) ≤ (slots : Int) := by omega
          clear hz1 hbad
          go_enter Try.func27, Try.ntmps27
          go_wp2_with fail
          refine (FX.out _ (Below.refl _ _)).mono ?_
          rintro e w1 ⟨rfl, h1⟩
          have H1 := Lib.hid h1
          have z1 := h1.size
          clear h1
          go_wp2_with fail
          refine (FD.out _ (H1.out.alloc H1.out.size _)).mono ?_
          rintro e w2 ⟨rfl, h2⟩
          have H2 := Lib.hid (show Below w.heap.size w w2 from (H1.out.alloc H1.out.size _).trans (h2.mono (by simp; omega)))
          clear h2 H1
          go_wp2_with fail
          refine (PX.out _).mono ?_
          rintro e w3 ⟨rfl, h3⟩
          have H3 := Lib.hid (H2.out.trans (h3.mono H2.out.size))
          clear h3 H2
          obtain ⟨d0, d1, d2, d3, d4⟩ := HC.out w3 H3.out
          go_wp2_with fail
          exact ⟨rfl, ⟨_, by decide, rfl⟩, H3.out⟩
        · have s1 : ¬ (60 : Int) ≤ (slots : Int) := by omega
          by_cases hz2 : 12 < n
          · clear hz1 hbad
            go_enter Try.func27, Try.ntmps27
            go_wp2_with fail
            refine (FX.out _ (Below.refl _ _)).mono ?_
            rintro e w1 ⟨rfl, h1⟩
            have H1 := Lib.hid h1
            have z1 := h1.size
            clear h1
            go_wp2_with fail
            refine (FD.out _ (H1.out.alloc H1.out.size _)).mono ?_
            rintro e w2 ⟨rfl, h2⟩
            have H2 := Lib.hid (show Below w.heap.size w w2 from (H1.out.alloc H1.out.size _).trans (h2.mono (by simp; omega)))
            clear h2 H1
            go_wp2_with fail
            refine (PX.out _).mono ?_
            rintro e w3 ⟨rfl, h3⟩
            have H3 := Lib.hid (H2.out.trans (h3.mono H2.out.size))
            clear h3 H2
            obtain ⟨d0, d1, d2, d3, d4⟩ := HC.out w3 H3.out
            go_wp2_with fail
            exact ⟨rfl, ⟨_, by decide, rfl⟩, H3.out⟩
          · clear hz1 hbad
            go_enter Try.func27, Try.ntmps27
            go_wp2_with fail
            refine (FX.out _ (Below.refl _ _)).mono ?_
            rintro e w1 ⟨rfl, h1⟩
            have H1 := Lib.hid h1
            have z1 := h1.size
            clear h1
            go_wp2_with fail
            refine (FD.out _ (H1.out.alloc H1.out.size _)).mono ?_
            rintro e w2 ⟨rfl, h2⟩
            have H2 := Lib.hid (show Below w.heap.size w w2 from (H1.out.alloc H1.out.size _).trans (h2.mono (by simp; omega)))
            clear h2 H1
            go_wp2_with fail
            refine (PX.out _).mono ?_
            rintro e w3 ⟨rfl, h3⟩
            have H3 := Lib.hid (H2.out.trans (h3.mono H2.out.size))
            clear h3 H2
            obtain ⟨d0, d1, d2, d3, d4⟩ := HC.out w3 H3.out
            go_wp2_with fail
            exact ⟨rfl, ⟨_, by decide, rfl⟩, H3.out⟩
      | false =>
        cases hs : (s.toList == superL) with
        | true =>
          obtain ⟨a, PX⟩ : ∃ a : Int, Hid (∀ W, Calls Try.prog 45 #[.string s] W fun e w' => e = .returned (.tuple #[.int .i64 a, .bool false]) ∧ Below W.heap.size W w') := ⟨_, Lib.hid fun W => by have q := PA.out W; rw [hp] at q; exact q⟩
          have hs' : (s.toList == [115, 117, 112, 101, 114]) = true := hs
          clear FA PA hp hs
          by_cases hz1 : 60 ≤ slots
          · have s1 : (60 : Int) ≤ (slots : Int) := by omega
            clear hz1 hbad
            go_enter Try.func27, Try.ntmps27
            go_wp2_with fail
            refine (FX.out _ (Below.refl _ _)).mono ?_
            rintro e w1 ⟨rfl, h1⟩
            have H1 := Lib.hid h1
            have z1 := h1.size
            clear h1
            go_wp2_with fail
            refine (FD.out _ (H1.out.alloc H1.out.size _)).mono ?_
            rintro e w2 ⟨rfl, h2⟩
            have H2 := Lib.hid (show Below w.heap.size w w2 from (H1.out.alloc H1.out.size _).trans (h2.mono (by simp; omega)))
            clear h2 H1
            go_wp2_with fail
            refine (PX.out _).mono ?_
            rintro e w3 ⟨rfl, h3⟩
            have H3 := Lib.hid (H2.out.trans (h3.mono H2.out.size))
            clear h3 H2
            obtain ⟨d0, d1, d2, d3, d4⟩ := HC.out w3 H3.out
            go_wp2_with fail
            exact ⟨rfl, ⟨_, by decide, rfl⟩, H3.out⟩
          · have s1 : ¬ (60 : Int) ≤ (slots : Int) := by omega
            by_cases hz2 : 12 < n
            · clear hz1 hbad
              go_enter Try.func27, Try.ntmps27
              go_wp2_with fail
              refine (FX.out _ (Below.refl _ _)).mono ?_
              rintro e w1 ⟨rfl, h1⟩
              have H1 := Lib.hid h1
              have z1 := h1.size
              clear h1
              go_wp2_with fail
              refine (FD.out _ (H1.out.alloc H1.out.size _)).mono ?_
              rintro e w2 ⟨rfl, h2⟩
              have H2 := Lib.hid (show Below w.heap.size w w2 from (H1.out.alloc H1.out.size _).trans (h2.mono (by simp; omega)))
              clear h2 H1
              go_wp2_with fail
              refine (PX.out _).mono ?_
              rintro e w3 ⟨rfl, h3⟩
              have H3 := Lib.hid (H2.out.trans (h3.mono H2.out.size))
              clear h3 H2
              obtain ⟨d0, d1, d2, d3, d4⟩ := HC.out w3 H3.out
              go_wp2_with fail
              exact ⟨rfl, ⟨_, by decide, rfl⟩, H3.out⟩
            · clear hz1 hbad
              go_enter Try.func27, Try.ntmps27
              go_wp2_with fail
              refine (FX.out _ (Below.refl _ _)).mono ?_
              rintro e w1 ⟨rfl, h1⟩
              have H1 := Lib.hid h1
              have z1 := h1.size
              clear h1
              go_wp2_with fail
              refine (FD.out _ (H1.out.alloc H1.out.size _)).mono ?_
              rintro e w2 ⟨rfl, h2⟩
              have H2 := Lib.hid (show Below w.heap.size w w2 from (H1.out.alloc H1.out.size _).trans (h2.mono (by simp; omega)))
              clear h2 H1
              go_wp2_with fail
              refine (PX.out _).mono ?_
              rintro e w3 ⟨rfl, h3⟩
              have H3 := Lib.hid (H2.out.trans (h3.mono H2.out.size))
              clear h3 H2
              obtain ⟨d0, d1, d2, d3, d4⟩ := HC.out w3 H3.out
              go_wp2_with fail
              exact ⟨rfl, ⟨_, by decide, rfl⟩, H3.out⟩
        | false =>
          obtain ⟨a, PX⟩ : ∃ a : Int, Hid (∀ W, Calls Try.prog 45 #[.string s] W fun e w' => e = .returned (.tuple #[.int .i64 a, .bool false]) ∧ Below W.heap.size W w') := ⟨_, Lib.hid fun W => by have q := PA.out W; rw [hp] at q; exact q⟩
          have hs' : (s.toList == [115, 117, 112, 101, 114]) = false := hs
          clear FA PA hp hs
          by_cases hz1 : 60 ≤ slots
          · have s1 : (60 : Int) ≤ (slots : Int) := by omega
            clear hz1 hbad
            go_enter Try.func27, Try.ntmps27
            go_wp2_with fail
            refine (FX.out _ (Below.refl _ _)).mono ?_
            rintro e w1 ⟨rfl, h1⟩
            have H1 := Lib.hid h1
            have z1 := h1.size
            clear h1
            go_wp2_with fail
            refine (FD.out _ (H1.out.alloc H1.out.size _)).mono ?_
            rintro e w2 ⟨rfl, h2⟩
            have H2 := Lib.hid (show Below w.heap.size w w2 from (H1.out.alloc H1.out.size _).trans (h2.mono (by simp; omega)))
            clear h2 H1
            go_wp2_with fail
            refine (PX.out _).mono ?_
            rintro e w3 ⟨rfl, h3⟩
            have H3 := Lib.hid (H2.out.trans (h3.mono H2.out.size))
            clear h3 H2
            obtain ⟨d0, d1, d2, d3, d4⟩ := HC.out w3 H3.out
            go_wp2_with fail
            exact ⟨rfl, ⟨_, by decide, rfl⟩, H3.out⟩
          · have s1 : ¬ (60 : Int) ≤ (slots : Int) := by omega
            by_cases hz2 : 12 < n
            · clear hz1 hbad
              go_enter Try.func27, Try.ntmps27
              go_wp2_with fail
              refine (FX.out _ (Below.refl _ _)).mono ?_
              rintro e w1 ⟨rfl, h1⟩
              have H1 := Lib.hid h1
              have z1 := h1.size
              clear h1
              go_wp2_with fail
              refine (FD.out _ (H1.out.alloc H1.out.size _)).mono ?_
              rintro e w2 ⟨rfl, h2⟩
              have H2 := Lib.hid (show Below w.heap.size w w2 from (H1.out.alloc H1.out.size _).trans (h2.mono (by simp; omega)))
              clear h2 H1
              go_wp2_with fail
              refine (PX.out _).mono ?_
              rintro e w3 ⟨rfl, h3⟩
              have H3 := Lib.hid (H2.out.trans (h3.mono H2.out.size))
              clear h3 H2
              obtain ⟨d0, d1, d2, d3, d4⟩ := HC.out w3 H3.out
              go_wp2_with fail
              exact ⟨rfl, ⟨_, by decide, rfl⟩, H3.out⟩
            · clear hz1 hbad
              go_enter Try.func27, Try.ntmps27
              go_wp2_with fail
              refine (FX.out _ (Below.refl _ _)).mono ?_
              rintro e w1 ⟨rfl, h1⟩
              have H1 := Lib.hid h1
              have z1 := h1.size
              clear h1
              go_wp2_with fail
              refine (FD.out _ (H1.out.alloc H1.out.size _)).mono ?_
              rintro e w2 ⟨rfl, h2⟩
              have H2 := Lib.hid (show Below w.heap.size w w2 from (H1.out.alloc H1.out.size _).trans (h2.mono (by simp; omega)))
              clear h2 H1
              go_wp2_with fail
              refine (PX.out _).mono ?_
              rintro e w3 ⟨rfl, h3⟩
              have H3 := Lib.hid (H2.out.trans (h3.mono H2.out.size))
              clear h3 H2
              obtain ⟨d0, d1, d2, d3, d4⟩ := HC.out w3 H3.out
              go_wp2_with fail
              exact ⟨rfl, ⟨_, by decide, rfl⟩, H3.out⟩
    · have hf' := hf
      have hfm : findM kn s = none := by simpa using hf
      have FX := Lib.hid (show ∀ W, Below w.heap.size w W → Calls Try.prog 43 #[.pointer (some ⟨p, 0, none⟩), .string s] W fun e w' => e = .returned (.tuple #[.agg #[.string ⟨#[]⟩, .int .i64 0, .bool false], .bool false]) ∧ Below W.heap.size W w' from fun W hW => by have q := FA.out W hW; rw [hfm] at q; exact q)
      clear hfm hf
      have g1 : decide (0 ≤ fieldM F s) = false := by simpa using hd
      rw [hf', g1] at hbad
      generalize fieldM F s = fm at *
      cases hp : (pseudoM s).isSome with
      | true =>
        obtain ⟨a, PX⟩ : ∃ a : Int, Hid (∀ W, Calls Try.prog 45 #[.string s] W fun e w' => e = .returned (.tuple #[.int .i64 a, .bool true]) ∧ Below W.heap.size W w') := ⟨_, Lib.hid fun W => by have q := PA.out W; rw [hp] at q; exact q⟩
        clear FA PA hp
        by_cases hz1 : 60 ≤ slots
        · have s1 : (60 : Int) ≤ (slots : Int) := by omega
          clear hz1 hbad
          go_enter Try.func27, Try.ntmps27
          go_wp2_with fail
          refine (FX.out _ (Below.refl _ _)).mono ?_
          rintro e w1 ⟨rfl, h1⟩
          have H1 := Lib.hid h1
          have z1 := h1.size
          clear h1
          go_wp2_with fail
          refine (FD.out _ (H1.out.alloc H1.out.size _)).mono ?_
          rintro e w2 ⟨rfl, h2⟩
          have H2 := Lib.hid (show Below w.heap.size w w2 from (H1.out.alloc H1.out.size _).trans (h2.mono (by simp; omega)))
          clear h2 H1
          go_wp2_with fail
          refine (PX.out _).mono ?_
          rintro e w3 ⟨rfl, h3⟩
          have H3 := Lib.hid (H2.out.trans (h3.mono H2.out.size))
          clear h3 H2
          obtain ⟨d0, d1, d2, d3, d4⟩ := HC.out w3 H3.out
          go_wp2_with fail
          exact ⟨rfl, ⟨_, by decide, rfl⟩, H3.out⟩
        · have s1 : ¬ (60 : Int) ≤ (slots : Int) := by omega
          by_cases hz2 : 12 < n
          · clear hz1 hbad
            go_enter Try.func27, Try.ntmps27
            go_wp2_with fail
            refine (FX.out _ (Below.refl _ _)).mono ?_
            rintro e w1 ⟨rfl, h1⟩
            have H1 := Lib.hid h1
            have z1 := h1.size
            clear h1
            go_wp2_with fail
            refine (FD.out _ (H1.out.alloc H1.out.size _)).mono ?_
            rintro e w2 ⟨rfl, h2⟩
            have H2 := Lib.hid (show Below w.heap.size w w2 from (H1.out.alloc H1.out.size _).trans (h2.mono (by simp; omega)))
            clear h2 H1
            go_wp2_with fail
            refine (PX.out _).mono ?_
            rintro e w3 ⟨rfl, h3⟩
            have H3 := Lib.hid (H2.out.trans (h3.mono H2.out.size))
            clear h3 H2
            obtain ⟨d0, d1, d2, d3, d4⟩ := HC.out w3 H3.out
            go_wp2_with fail
            exact ⟨rfl, ⟨_, by decide, rfl⟩, H3.out⟩
          · clear hz1 hbad
            go_enter Try.func27, Try.ntmps27
            go_wp2_with fail
            refine (FX.out _ (Below.refl _ _)).mono ?_
            rintro e w1 ⟨rfl, h1⟩
            have H1 := Lib.hid h1
            have z1 := h1.size
            clear h1
            go_wp2_with fail
            refine (FD.out _ (H1.out.alloc H1.out.size _)).mono ?_
            rintro e w2 ⟨rfl, h2⟩
            have H2 := Lib.hid (show Below w.heap.size w w2 from (H1.out.alloc H1.out.size _).trans (h2.mono (by simp; omega)))
            clear h2 H1
            go_wp2_with fail
            refine (PX.out _).mono ?_
            rintro e w3 ⟨rfl, h3⟩
            have H3 := Lib.hid (H2.out.trans (h3.mono H2.out.size))
            clear h3 H2
            obtain ⟨d0, d1, d2, d3, d4⟩ := HC.out w3 H3.out
            go_wp2_with fail
            exact ⟨rfl, ⟨_, by decide, rfl⟩, H3.out⟩
      | false =>
        cases hs : (s.toList == superL) with
        | true =>
          obtain ⟨a, PX⟩ : ∃ a : Int, Hid (∀ W, Calls Try.prog 45 #[.string s] W fun e w' => e = .returned (.tuple #[.int .i64 a, .bool false]) ∧ Below W.heap.size W w') := ⟨_, Lib.hid fun W => by have q := PA.out W; rw [hp] at q; exact q⟩
          have hs' : (s.toList == [115, 117, 112, 101, 114]) = true := hs
          clear FA PA hp hs
          by_cases hz1 : 60 ≤ slots
          · have s1 : (60 : Int) ≤ (slots : Int) := by omega
            clear hz1 hbad
            go_enter Try.func27, Try.ntmps27
            go_wp2_with fail
            refine (FX.out _ (Below.refl _ _)).mono ?_
            rintro e w1 ⟨rfl, h1⟩
            have H1 := Lib.hid h1
            have z1 := h1.size
            clear h1
            go_wp2_with fail
            refine (FD.out _ (H1.out.alloc H1.out.size _)).mono ?_
            rintro e w2 ⟨rfl, h2⟩
            have H2 := Lib.hid (show Below w.heap.size w w2 from (H1.out.alloc H1.out.size _).trans (h2.mono (by simp; omega)))
            clear h2 H1
            go_wp2_with fail
            refine (PX.out _).mono ?_
            rintro e w3 ⟨rfl, h3⟩
            have H3 := Lib.hid (H2.out.trans (h3.mono H2.out.size))
            clear h3 H2
            obtain ⟨d0, d1, d2, d3, d4⟩ := HC.out w3 H3.out
            go_wp2_with fail
            exact ⟨rfl, ⟨_, by decide, rfl⟩, H3.out⟩
          · have s1 : ¬ (60 : Int) ≤ (slots : Int) := by omega
            by_cases hz2 : 12 < n
            · clear hz1 hbad
              go_enter Try.func27, Try.ntmps27
              go_wp2_with fail
              refine (FX.out _ (Below.refl _ _)).mono ?_
              rintro e w1 ⟨rfl, h1⟩
              have H1 := Lib.hid h1
              have z1 := h1.size
              clear h1
              go_wp2_with fail
              refine (FD.out _ (H1.out.alloc H1.out.size _)).mono ?_
              rintro e w2 ⟨rfl, h2⟩
              have H2 := Lib.hid (show Below w.heap.size w w2 from (H1.out.alloc H1.out.size _).trans (h2.mono (by simp; omega)))
              clear h2 H1
              go_wp2_with fail
              refine (PX.out _).mono ?_
              rintro e w3 ⟨rfl, h3⟩
              have H3 := Lib.hid (H2.out.trans (h3.mono H2.out.size))
              clear h3 H2
              obtain ⟨d0, d1, d2, d3, d4⟩ := HC.out w3 H3.out
              go_wp2_with fail
              exact ⟨rfl, ⟨_, by decide, rfl⟩, H3.out⟩
            · clear hz1 hbad
              go_enter Try.func27, Try.ntmps27
              go_wp2_with fail
              refine (FX.out _ (Below.refl _ _)).mono ?_
              rintro e w1 ⟨rfl, h1⟩
              have H1 := Lib.hid h1
              have z1 := h1.size
              clear h1
              go_wp2_with fail
              refine (FD.out _ (H1.out.alloc H1.out.size _)).mono ?_
              rintro e w2 ⟨rfl, h2⟩
              have H2 := Lib.hid (show Below w.heap.size w w2 from (H1.out.alloc H1.out.size _).trans (h2.mono (by simp; omega)))
              clear h2 H1
              go_wp2_with fail
              refine (PX.out _).mono ?_
              rintro e w3 ⟨rfl, h3⟩
              have H3 := Lib.hid (H2.out.trans (h3.mono H2.out.size))
              clear h3 H2
              obtain ⟨d0, d1, d2, d3, d4⟩ := HC.out w3 H3.out
              go_wp2_with fail
              exact ⟨rfl, ⟨_, by decide, rfl⟩, H3.out⟩
        | false =>
          obtain ⟨a, PX⟩ : ∃ a : Int, Hid (∀ W, Calls Try.prog 45 #[.string s] W fun e w' => e = .returned (.tuple #[.int .i64 a, .bool false]) ∧ Below W.heap.size W w') := ⟨_, Lib.hid fun W => by have q := PA.out W; rw [hp] at q; exact q⟩
          have hs' : (s.toList == [115, 117, 112, 101, 114]) = false := hs
          rw [hp, hs] at hbad
          clear FA PA hp hs
          by_cases hz1 : 60 ≤ slots
          · have s1 : (60 : Int) ≤ (slots : Int) := by omega
            clear hz1 hbad
            go_enter Try.func27, Try.ntmps27
            go_wp2_with fail
            refine (FX.out _ (Below.refl _ _)).mono ?_
            rintro e w1 ⟨rfl, h1⟩
            have H1 := Lib.hid h1
            have z1 := h1.size
            clear h1
            go_wp2_with fail
            refine (FD.out _ (H1.out.alloc H1.out.size _)).mono ?_
            rintro e w2 ⟨rfl, h2⟩
            have H2 := Lib.hid (show Below w.heap.size w w2 from (H1.out.alloc H1.out.size _).trans (h2.mono (by simp; omega)))
            clear h2 H1
            go_wp2_with fail
            refine (PX.out _).mono ?_
            rintro e w3 ⟨rfl, h3⟩
            have H3 := Lib.hid (H2.out.trans (h3.mono H2.out.size))
            clear h3 H2
            obtain ⟨d0, d1, d2, d3, d4⟩ := HC.out w3 H3.out
            go_wp2_with fail
            exact ⟨rfl, ⟨_, by decide, rfl⟩, H3.out⟩
          · have s1 : ¬ (60 : Int) ≤ (slots : Int) := by omega
            by_cases hz2 : 12 < n
            · clear hz1 hbad
              go_enter Try.func27, Try.ntmps27
              go_wp2_with fail
              refine (FX.out _ (Below.refl _ _)).mono ?_
              rintro e w1 ⟨rfl, h1⟩
              have H1 := Lib.hid h1
              have z1 := h1.size
              clear h1
              go_wp2_with fail
              refine (FD.out _ (H1.out.alloc H1.out.size _)).mono ?_
              rintro e w2 ⟨rfl, h2⟩
              have H2 := Lib.hid (show Below w.heap.size w w2 from (H1.out.alloc H1.out.size _).trans (h2.mono (by simp; omega)))
              clear h2 H1
              go_wp2_with fail
              refine (PX.out _).mono ?_
              rintro e w3 ⟨rfl, h3⟩
              have H3 := Lib.hid (H2.out.trans (h3.mono H2.out.size))
              clear h3 H2
              obtain ⟨d0, d1, d2, d3, d4⟩ := HC.out w3 H3.out
              go_wp2_with fail
              exact ⟨rfl, ⟨_, by decide, rfl⟩, H3.out⟩
            · exact absurd hbad (by simp [hz1, hz2])
end Go.Proofs.Ytpfgidhchjcomaa
