/- A name more is declared. -/
import Derived.Test.YtpfgidhchjcomaaMeDecl
namespace Go.Proofs.Ytpfgidhchjcomaa
open Go.RowKit
set_option linter.unusedVariables false
theorem knInfo : (Try.prog.info? 91).map (fun i => (i.zero, i.size, i.bytes)) = some (some (.agg #[.string ⟨#[]⟩, .int .i64 0, .bool false]), 3, 32) := by kernel_rfl
set_option maxRecDepth 100000 in
set_option maxHeartbeats 4000000 in
theorem declare_yes (B : Nat) (p : Nat) (kn : List Kn) (slots : Nat) (fv gv : Value) (F G : List ByteArray) (s : ByteArray) (n at_ : Int) (w : World) (h : RsAt B w p kn slots fv gv F G) (hsz : s.size ≤ maxLen) (hgood : declBad F kn slots s n = false) :
    Calls Try.prog 27 #[.pointer (some ⟨p, 0, none⟩), .string s, .int .i64 n, .int .i64 at_] w fun e w' => e = .returned (.tuple #[]) ∧ RsAt B w' p (kn ++ [⟨s, slots, n == 0⟩]) (slots + 1) fv gv F G ∧ Kt p w w' ∧ Below B w w' := by
  obtain ⟨iK, hiK, kz0, kz1, kz2⟩ := info_parts knInfo
  obtain ⟨hlp, v, c0, c1, c2, c3, cf, hk⟩ := h.get
  obtain ⟨va, vc, rfl, hv1, hv2⟩ := hk.shape
  obtain ⟨fa, fc, rfl, -⟩ := id h.fs
  have HC := Lib.hid (show ∀ W, Below w.heap.size w W → W.cell? ⟨p, 0, none⟩ = some (.slice va kn.length vc) ∧ W.cell? ⟨p, 1, none⟩ = some (.int .i64 (slots : Int)) ∧ W.cell? ⟨p, 2, none⟩ = some (.slice fa F.length fc) ∧ W.frozen? ⟨p, 0, none⟩ = false ∧ W.frozen? ⟨p, 1, none⟩ = false from fun W hW => ⟨(hW.cell (p := ⟨p, 0, none⟩) hlp).trans c0, (hW.cell (p := ⟨p, 1, none⟩) hlp).trans c1, (hW.cell (p := ⟨p, 2, none⟩) hlp).trans c2, (hW.frozen (p := ⟨p, 0, none⟩) hlp).trans (cf 0), (hW.frozen (p := ⟨p, 1, none⟩) hlp).trans (cf 1)⟩)
  unfold declBad at hgood
  simp only [Bool.or_eq_false_iff] at hgood
  obtain ⟨⟨⟨⟨⟨hf, hd⟩, hp⟩, hs⟩, hz1⟩, hz2⟩ := hgood
  have hfm : findM kn s = none := by simpa using hf
  have FX := Lib.hid (show ∀ W, Below w.heap.size w W → Calls Try.prog 43 #[.pointer (some ⟨p, 0, none⟩), .string s] W fun e w' => e = .returned (.tuple #[.agg #[.string ⟨#[]⟩, .int .i64 0, .bool false], .bool false]) ∧ Below W.heap.size W w' from fun W hW => by have q := find_any p _ kn s W ((HC.out W hW).1) (hk.later hW); rw [hfm] at q; exact q)
  have FD := Lib.hid (fun W (hW : Below w.heap.size w W) => field_any (· < B) p _ F s W ((HC.out W hW).2.2.1) (h.fs.later hW) h.nF)
  obtain ⟨a, PX⟩ : ∃ a : Int, Hid (∀ W, Calls Try.prog 45 #[.string s] W fun e w' => e = .returned (.tuple #[.int .i64 a, .bool false]) ∧ Below W.heap.size W w') := ⟨_, Lib.hid fun W => by have q := pseudo_any s W hsz; rw [hp] at q; exact q⟩
  have hs' : (s.toList == [115, 117, 112, 101, 114]) = false := hs
  have s1 : ¬ (60 : Int) ≤ (slots : Int) := by simp at hz1; omega
  have h60 : slots < 60 := by omega
  have hz2' : ¬ 12 < n := by simpa using hz2
  have hnl := h.nK
  have hBp := h.pB
  have HPU := Lib.hid (fun WA wF v' hW ho hg hat => h.push (v := .slice va kn.length vc) (s := s) (b := n == 0) (v' := v') (WA := WA) (wF := wF) c0 hW ho hg hat h60)
  have HRW := Lib.hid (show ∀ W, Below w.heap.size w W → W.ownsRow B 91 3 (.slice va kn.length vc) kn.length (knC kn) from fun W hW => by
    obtain ⟨⟨v0, q1, q2⟩, -⟩ := h
    have q3 := cell_of_row w p 0 _ _ _ q1
    rw [c0] at q3
    simp at q3
    subst q3
    exact own_grown q2 fun g hg => hW.block g (q2.lt g hg).2)
  have HPA := Lib.hid (show ∀ WA wF, Below w.heap.size w WA → WA.grownBy wF (Value.slice va kn.length vc).ownBlock → wF.cell? ⟨p, 0, none⟩ = some (.slice va kn.length vc) ∧ wF.cell? ⟨p, 1, none⟩ = some (.int .i64 (slots : Int)) ∧ wF.frozen? ⟨p, 0, none⟩ = false ∧ wF.frozen? ⟨p, 1, none⟩ = false from fun WA wF hW hg => by
    obtain ⟨⟨v0, q1, q2⟩, -⟩ := h
    have q3 := cell_of_row w p 0 _ _ _ q1
    rw [c0] at q3
    simp at q3
    subst q3
    have hne : some p ≠ (Value.slice va kn.length vc).ownBlock := fun e => by
      rcases q2.2 with ⟨hv, -⟩ | ⟨g', cap, cur, hv, -, hh, -⟩
      · rw [hv] at e; cases e
      · rw [hv] at e
        injection e with e
        have e' : p = g' := e
        rw [← e', q1] at hh
        injection hh with hh
        injection hh with _ hh _
        exact absurd hh (by decide)
    have e1 := hg.block p (by have := hW.size; omega) hne
    obtain ⟨d0, d1, -, d3, d4⟩ := HC.out WA hW
    exact ⟨(World.cell?_of_block (a := ⟨p, 0, none⟩) e1).trans d0, (World.cell?_of_block (a := ⟨p, 1, none⟩) e1).trans d1, (World.frozen?_of_block (a := ⟨p, 0, none⟩) e1).trans d3, (World.frozen?_of_block (a := ⟨p, 1, none⟩) e1).trans d4⟩)
  have g1 : decide (0 ≤ fieldM F s) = false := hd
  clear hf hd hp hs hz1 hz2 hfm h hk
  generalize fieldM F s = fm at *
  have HFM := Lib.hid g1
  go_enter Try.func27, Try.ntmps27
  go_wp2_with fail
  refine (FX.out _ (Below.refl _ _)).mono ?_
  rintro e w1 ⟨rfl, h1⟩
  have H1 := Lib.hid h1
  have z1 := h1.size
  clear h1
  go_wp2_with fail
  refine (FD.out _ (H1.out.alloc H1.out.size _)).mono ?_
  rintro e w2 ⟨rfl, h2⟩
  have H2 := Lib.hid (show Below w.heap.size w w2 from (H1.out.alloc H1.out.size _).trans (h2.mono (by simp; omega)))
  clear h2 H1
  go_wp2_with fail
  refine (PX.out _).mono ?_
  rintro e w3 ⟨rfl, h3⟩
  have H3 := Lib.hid (H2.out.trans (h3.mono H2.out.size))
  clear h3 H2
  obtain ⟨d0, d1, d2, d3, d4⟩ := HC.out w3 H3.out
  have hl3 : p < w3.heap.size := lt_of_cell d0
  have z3 := H3.out.size
  go_upto_region 11 with fail
  have k3 : Below w3.heap.size w3 w3 := Below.refl _ _
  have c30 : (w3.drew).cell? ⟨p, 0, none⟩ = some (.slice va kn.length vc) := d0
  have c31 : (w3.drew).cell? ⟨p, 1, none⟩ = some (.int .i64 (slots : Int)) := d1
  go_region_law
    (refine step_append_lies _ rfl (.tmp 59) (.tmp 68) 54 rfl B 91 iK _ 3 32 Try.underlying54 hiK kz0 kz1 kz2 rfl (by omega) (.slice va kn.length vc) kn.length (knC kn) (by rfl) (HRW.out _ ?_) ⟨_, 0, none⟩ 1 1 [.string s, .int .i64 (slots : Int), .bool (n == 0)] (by rfl) rfl (World.news_of_block (cs := #[.string s, .int .i64 (slots : Int), .bool (n == 0)]) (heap_alloc_new _ _)) ?_ (by omega) (by unfold maxLen; omega) (by omega) ?_ _ rfl ?_
     · repeat (first | with_reducible exact Below.refl _ _ | ((with_reducible refine Below.setCell ?_ ?_ _); rotate_left; focus (first | (simp; done) | (simp; omega) | omega)) | ((with_reducible refine Below.alloc ?_ ?_ _); rotate_left; focus (first | (simp; done) | (simp; omega) | omega)) | (with_reducible refine Below.drew ?_) | ((with_reducible refine Below.trans ?_ (Below.mono H3.out ?_)); rotate_left; focus (first | (simp; done) | (simp; omega) | omega)))
     · simp [Value.oneCell']
     · first | omega | (simp; omega)
     intro gg cap6 wF hownF hgrF hatF hltF
     have HOF := Lib.hid hownF
     have HWF : Hid (∃ WA, (Below w.heap.size w WA ∧ WA.grownBy wF (Value.slice va kn.length vc).ownBlock) ∧ ((Value.slice va kn.length vc).ownBlock = some gg ∨ gg = WA.heap.size)) := Lib.hid ⟨_, ⟨by repeat (first | with_reducible exact Below.refl _ _ | ((with_reducible refine Below.setCell ?_ ?_ _); rotate_left; focus (first | (simp; done) | (simp; omega) | omega)) | ((with_reducible refine Below.alloc ?_ ?_ _); rotate_left; focus (first | (simp; done) | (simp; omega) | omega)) | (with_reducible refine Below.drew ?_) | ((with_reducible refine Below.trans ?_ (Below.mono H3.out ?_)); rotate_left; focus (first | (simp; done) | (simp; omega) | omega))), hgrF⟩, hatF⟩
     obtain ⟨y0, y1, y2, y3⟩ := (fun ⟨WA, ⟨h1, h2⟩, _⟩ => HPA.out WA wF h1 h2 : (∃ WA, (Below w.heap.size w WA ∧ WA.grownBy wF (Value.slice va kn.length vc).ownBlock) ∧ ((Value.slice va kn.length vc).ownBlock = some gg ∨ gg = WA.heap.size)) → _) HWF.out
     have y4 := lt_of_cell y0
     clear hownF hatF hgrF)
  all_goals
    have HFI := Lib.hid (show _ from (fun ⟨WA, ⟨h1, h2⟩, h3⟩ => HPU.out WA wF _ h1 HOF.out h2 (fun g hg => by have hg' : gg = g := by injection hg
                                                                                                              subst hg'
                                                                                                              exact h3.imp id fun e => by have := h1.size; omega) : (∃ WA, (Below w.heap.size w WA ∧ WA.grownBy wF (Value.slice va kn.length vc).ownBlock) ∧ ((Value.slice va kn.length vc).ownBlock = some gg ∨ gg = WA.heap.size)) → _) HWF.out)
    rw [show ((slots + 1 : Nat) : Int) = (slots : Int) + 1 by omega] at HFI
    go_wp2_with fail
    go_end0
    exact ⟨rfl, HFI.out⟩
end Go.Proofs.Ytpfgidhchjcomaa
