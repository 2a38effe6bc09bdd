/- The law's fixed fact of layer 6. Order behind a collection: the same objects in the same order: the plain law. The document's order: what the words lead to, as it is first met. The document's order is the order of the walk, unless something is loose. The document's Order, walked. -/
import Derived.Test.YtobajnodckiohaaDoorCollH
import Derived.Test.YtobajnodckiohaaDoorLayOpen
namespace Go.Proofs.YtobajnodckiohaaDoor
open Go.RowKit
set_option linter.unusedVariables false
def gS1 : Nat → Bool := setS 40 (fun _ => false) ((2 : Nat) : Int) true
def gM1 : Nat → Nat := fillM (put2 (fun _ => 0) 2 4 (packZ 0 ((1 : Nat) : Int) 0 false).toNat) (2 + 2) 1 1
def gS2 : Nat → Bool := setS 40 gS1 ((5 : Nat) : Int) true
def gM2 : Nat → Nat := fillM (put2 gM1 5 4 (packZ 1 ((1 : Nat) : Int) 0 false).toNat) (5 + 2) 1 1
def gS3 : Nat → Bool := setS 40 gS2 ((8 : Nat) : Int) true
def gM3 : Nat → Nat := fillM (put2 gM2 8 4 (packZ 1 ((1 : Nat) : Int) 0 false).toNat) (8 + 2) 1 4
theorem gS_iff (a : Nat) : gS3 a = true ↔ a = 8 ∨ a = 5 ∨ a = 2 := by
  unfold gS3 gS2 gS1
  rw [setT 40 8 _ (by omega) a, setT 40 5 _ (by omega) a, setT 40 2 _ (by omega) a]
  constructor
  · rintro (h | h | h | h)
    · exact Or.inl h
    · exact Or.inr (Or.inl h)
    · exact Or.inr (Or.inr h)
    · cases h
  · rintro (h | h | h)
    · exact Or.inl h
    · exact Or.inr (Or.inl h)
    · exact Or.inr (Or.inr (Or.inl h))
theorem gM_at : (gM3 2 = 4 ∧ gM3 (2 + 1) = 1 ∧ gM3 (2 + 2) = 1) ∧ (gM3 5 = 4 ∧ gM3 (5 + 1) = 4294967297 ∧ gM3 (5 + 2) = 1) ∧ (gM3 8 = 4 ∧ gM3 (8 + 1) = 4294967297 ∧ gM3 (8 + 2) = 4) := ⟨⟨rfl, rfl, rfl⟩, ⟨rfl, rfl, rfl⟩, ⟨rfl, rfl, rfl⟩⟩
theorem g_heads : UnOK ((4 : Nat) : Int) ((4294967297 : Nat) : Int) ∧ hK ((4294967297 : Nat) : Int) = 1 ∧ hS ((4294967297 : Nat) : Int) = 1 ∧ hH ((4294967297 : Nat) : Int) = 0 ∧ UnOK ((4 : Nat) : Int) ((1 : Nat) : Int) ∧ hK ((1 : Nat) : Int) = 0 ∧ hS ((1 : Nat) : Int) = 1 ∧ hH ((1 : Nat) : Int) = 0 := by unfold UnOK hS hK hH; decide
theorem g_cz : cz gM3 2 = 1 ∧ cz gM3 5 = 1 ∧ cz gM3 8 = 1 := ⟨by decide +kernel, by decide +kernel, by decide +kernel⟩
theorem g_obj (a : Nat) (ha : gS3 a = true) : 2 ≤ a ∧ a + 3 ≤ 40 ∧ cz gM3 a = 1 ∧ UnOK (gM3 a) (gM3 (a + 1)) ∧ hH (gM3 (a + 1)) = 0 ∧ hS (gM3 (a + 1)) = 1 ∧ hK (gM3 (a + 1)) ≠ 2 ∧ wordsA gM3 a = [4, gM3 (a + 2)] ∧ (gM3 (a + 2) = 1 ∨ gM3 (a + 2) = 4) := by
  obtain ⟨⟨b1, b2, b3⟩, ⟨c1, c2, c3⟩, ⟨d1, d2, d3⟩⟩ := gM_at
  obtain ⟨u1, k1, s1, h1, u0, k0, s0, h0⟩ := g_heads
  obtain ⟨z1, z2, z3⟩ := g_cz
  rcases (gS_iff a).1 ha with rfl | rfl | rfl
  · refine ⟨by omega, by omega, z3, by rw [d1, d2]; exact u1, by rw [d2]; exact h1, by rw [d2]; exact s1, by rw [d2, k1]; decide, ?_, Or.inr d3⟩
    unfold wordsA
    rw [d1, d2, k1, s1, if_neg (by decide)]; rfl
  · refine ⟨by omega, by omega, z2, by rw [c1, c2]; exact u1, by rw [c2]; exact h1, by rw [c2]; exact s1, by rw [c2, k1]; decide, ?_, Or.inl c3⟩
    unfold wordsA
    rw [c1, c2, k1, s1, if_neg (by decide)]; rfl
  · refine ⟨by omega, by omega, z1, by rw [b1, b2]; exact u0, by rw [b2]; exact h0, by rw [b2]; exact s0, by rw [b2, k0]; decide, ?_, Or.inl b3⟩
    unfold wordsA
    rw [b1, b2, k0, s0, if_neg (by decide)]; rfl
theorem g_good : GoodH 40 gS3 gM3 := by
  intro a ha
  obtain ⟨h1, h2, h3, h4, h5, h6, h7, -⟩ := g_obj a ha
  exact ⟨⟨by omega, by omega, ha, h4⟩, fun hk => by rw [h6]; show a + 2 + 1 ≤ 40; omega⟩
theorem g_ksum : 2 + ksum gM3 gS3 40 ≤ 40 := by decide +kernel
theorem g_last : gM3 16777216 = 0 := by
  have f : ∀ (M : Nat → Nat) (o n v : Nat), o + n ≤ 16777216 → fillM M o n v 16777216 = M 16777216 := fun M o n v h => by unfold fillM; rw [if_neg (by omega)]
  unfold gM3 gM2 gM1
  rw [f _ _ _ _ (by omega), put2_last (by omega), f _ _ _ _ (by omega), put2_last (by omega), f _ _ _ _ (by omega), put2_last (by omega)]
theorem g_coll (hM : ∀ i, gM3 i < 18446744073709551616) : CollOK 40 gS3 gM3 := by
  refine ⟨fun a ha => ?_, hM, by omega, g_ksum, fun a b ha _ _ h0 => absurd (g_obj a ha).2.2.2.2.1 h0, by rw [g_last]; omega⟩
  obtain ⟨h1, h2, h3, h4, h5, h6, h7, -⟩ := g_obj a ha
  exact ⟨h1, by omega, h4, by rw [h5, g_last]; omega, by omega, fun hk => absurd hk h7⟩
theorem g_wd {x : Nat} (h : Wd gS3 gM3 [16] x) : x = 16 ∨ x = 4 ∨ x = 1 := by
  induction h with
  | root hx => left; simpa using hx
  | @step a y _ hs hy ih =>
    obtain ⟨-, -, -, -, -, -, -, hw, h8⟩ := g_obj a hs
    rw [hw] at hy
    rcases List.mem_cons.1 hy with rfl | hy
    · exact Or.inr (Or.inl rfl)
    · have : y = gM3 (a + 2) := by simpa using hy
      rcases h8 with h8 | h8
      · exact Or.inr (Or.inr (by rw [this, h8]))
      · exact Or.inr (Or.inl (by rw [this, h8]))
def gT : Nat → Bool := fun a => decide (a = 2 ∨ a = 8)
theorem g_stay {T : Nat → Bool} (h : Stay gS3 gM3 [16] T) : T = gT := by
  funext a
  apply Bool.eq_iff_iff.2
  rw [h.iff a]
  unfold gT
  rw [decide_eq_true_iff]
  have r8 : Wd gS3 gM3 [16] (8 * 2) := Wd.root (by simp)
  have s8 : gS3 8 = true := (gS_iff 8).2 (Or.inl rfl)
  have r2 : Wd gS3 gM3 [16] (2 * 2) := Wd.step r8 s8 (by rw [(g_obj 8 s8).2.2.2.2.2.2.2.1]; simp)
  constructor
  · rintro ⟨h1, h2⟩
    have := g_wd h1
    have := (gS_iff a).1 h2
    omega
  · rintro (rfl | rfl)
    · exact ⟨r2, (gS_iff 2).2 (Or.inr (Or.inr rfl))⟩
    · exact ⟨r8, s8⟩
theorem g_fine : ¬ Bad gS3 gM3 [16] := by
  rintro ⟨y, hy, y0, y1, y2⟩
  rcases g_wd hy with rfl | rfl | rfl
  · exact y2 ⟨by omega, (gS_iff 8).2 (Or.inl rfl)⟩
  · exact y2 ⟨by omega, (gS_iff 2).2 (Or.inr (Or.inr rfl))⟩
  · omega
theorem g_end : turnM gM3 gT 16 = 10 ∧ 2 + ksum gM3 gT 40 = 8 := ⟨by decide +kernel, by decide +kernel⟩
theorem checkG0 : checkZ ((4 : Nat) : Int) 0 ((1 : Nat) : Int) 0 = 0 := by rw [checkZ_ok]; exact ⟨by decide, by decide, by decide, by decide, by decide, by decide, by decide⟩
theorem checkG1 : checkZ ((4 : Nat) : Int) 1 ((1 : Nat) : Int) 0 = 0 := by rw [checkZ_ok]; exact ⟨by decide, by decide, by decide, by decide, by decide, by decide, by decide⟩
theorem ag1 (B h : Nat) (w : World) (H : HeapAt w B h 40 2 (fun _ => false) (fun _ => 0)) (hB : B ≤ w.heap.size) :
    Calls Tryd.prog 13 #[.pointer (some ⟨h, 0, none⟩), .int .u64 4, .int .i64 0, .int .i64 1, .int .u64 1] w fun e w' => e = .returned (.tuple #[.int .u64 4, .int .i64 0]) ∧ HeapAt w' B h 40 5 gS1 gM1 ∧ Below B w w' := by
  refine (alloc_slots B h 40 2 4 1 1 0 _ _ w H hB (by omega) checkG0 (by omega) (by omega) (by omega) (by omega)).mono ?_
  rintro e w' ⟨rfl, h1, h2⟩
  exact ⟨rfl, h1, h2⟩
theorem ag2 (B h : Nat) (w : World) (H : HeapAt w B h 40 5 gS1 gM1) (hB : B ≤ w.heap.size) :
    Calls Tryd.prog 13 #[.pointer (some ⟨h, 0, none⟩), .int .u64 4, .int .i64 1, .int .i64 1, .int .u64 1] w fun e w' => e = .returned (.tuple #[.int .u64 10, .int .i64 0]) ∧ HeapAt w' B h 40 8 gS2 gM2 ∧ Below B w w' := by
  refine (alloc_slots B h 40 5 4 1 1 1 _ _ w H hB (by omega) checkG1 (by omega) (by omega) (by omega) (by omega)).mono ?_
  rintro e w' ⟨rfl, h1, h2⟩
  exact ⟨rfl, h1, h2⟩
theorem ag3 (B h : Nat) (w : World) (H : HeapAt w B h 40 8 gS2 gM2) (hB : B ≤ w.heap.size) :
    Calls Tryd.prog 13 #[.pointer (some ⟨h, 0, none⟩), .int .u64 4, .int .i64 1, .int .i64 1, .int .u64 4] w fun e w' => e = .returned (.tuple #[.int .u64 16, .int .i64 0]) ∧ HeapAt w' B h 40 11 gS3 gM3 ∧ Below B w w' := by
  refine (alloc_slots B h 40 8 4 1 4 1 _ _ w H hB (by omega) checkG1 (by omega) (by omega) (by omega) (by omega)).mono ?_
  rintro e w' ⟨rfl, h1, h2⟩
  exact ⟨rfl, h1, h2⟩
/-- what a collection of it comes to -/
theorem coll06 (B h : Nat) (v : Value) (w : World) (H : HeapAt w B h 40 11 gS3 gM3) (hB : B ≤ w.heap.size) (hv : WordsAt w v [16]) (hT : TabAt 0 Lib.deBruijn64tab w) :
    Calls Tryd.prog 11 #[.pointer (some ⟨h, 0, none⟩), v] w fun e w' => ∃ (b o c : Nat) (S : Nat → Bool) (M : Nat → Nat), e = .returned (.tuple #[.slice (some ⟨b, o, none⟩) 1 c, .int .i64 0]) ∧ w'.cell? ⟨b, o, none⟩ = some (.int .u64 10) ∧ 1 ≤ c ∧ HeapAt w' B h 40 8 S M ∧ Below B w w' := by
  have hM : ∀ i, gM3 i < 18446744073709551616 := by obtain ⟨g, s, -, -, -, -, -, -, -, h, -⟩ := H; exact h
  refine (collect_any B h 40 11 gS3 gM3 [16] v w H hB g_good (g_coll hM) hv (fun x hx => by simp at hx; omega) (by simp) hT (by omega) (by omega)).mono ?_
  rintro e w' ⟨cv, r, rfl, hb, -, ⟨hbad, -⟩ | ⟨rfl, T, hst, hout, hh⟩⟩
  · exact absurd hbad g_fine
  · obtain rfl := g_stay hst
    obtain ⟨e1, e2⟩ := g_end
    rw [List.map_singleton, e1] at hout
    rw [e2] at hh
    obtain ⟨ba, bc, rfl, bl1, bl2, bl3⟩ := (words_of_owns hout).get
    obtain ⟨bb, bo, rfl, bl4, hb0⟩ := bl3 0 (by simp)
    exact ⟨bb, bo, bc, _, _, rfl, hb0, by simpa using bl1, hh, hb⟩
set_option maxRecDepth 100000 in
set_option maxHeartbeats 1600000 in
theorem awake6 (w : World) (hT : TabAt 0 Lib.deBruijn64tab w) : Calls Tryd.prog 4 #[] w fun e w' => e = .returned (.bool true) ∧ Below w.heap.size w w' := by
  have NW := Lib.hid (new_yes 40 (by omega) (by omega) w)
  have HT := Lib.hid hT
  clear hT
  go_enter Tryd.func4, Tryd.ntmps4
  go_wp2_with fail
  refine NW.out.mono ?_
  rintro e w1 ⟨h, rfl, hh, hg⟩
  have AL := Lib.hid (ag1 _ h w1 hh hg.size)
  have HG1 := Lib.hid hg; clear hh hg
  go_wp2_with fail
  refine AL.out.mono ?_
  rintro e w2 ⟨rfl, hh, hg⟩
  have HG2 := Lib.hid (HG1.out.trans hg)
  have AO := Lib.hid (ag2 _ h w2 hh HG2.out.size)
  clear hh hg
  go_wp2_with fail
  refine AO.out.mono ?_
  rintro e w3 ⟨rfl, hh, hg⟩
  have HG3 := Lib.hid (HG2.out.trans hg)
  have AP := Lib.hid (ag3 _ h w3 hh HG3.out.size)
  clear hh hg
  go_wp2_with fail
  refine AP.out.mono ?_
  rintro e w4 ⟨rfl, hh, hg⟩
  have HG4 := Lib.hid (HG3.out.trans hg)
  have HH4 := Lib.hid hh
  clear hh hg
  go_wp2_with fail
  have hw1 := words_one' w4 16 38
  have hb5 : Below w4.heap.size w4 (w4.alloc (.cells #[.int .u64 ((16 : Nat) : Int)] 38)) := (Below.refl _ w4).alloc (Nat.le_refl _) _
  rw [show ((16 : Nat) : Int) = 16 by rfl] at hw1 hb5
  generalize w4.alloc (.cells #[.int .u64 16] 38) = w5 at *
  have HG5 := Lib.hid (HG4.out.trans (hb5.mono HG4.out.size))
  refine (coll06 _ h _ w5 (HH4.out.later hb5) HG5.out.size hw1 (tab_later HT.out HG5.out)).mono ?_
  rintro e w6 ⟨b, o, c, S, M, rfl, hc, hc1, hh, hg⟩
  have HG6 := Lib.hid (HG5.out.trans hg)
  have US := Lib.hid (used_any _ h 40 8 S M w6 hh)
  clear hw1 hb5 hh hg
  go_wp2_with fail
  refine US.out.mono ?_
  rintro e w7 ⟨rfl, rfl⟩
  go_wp2_with fail
  all_goals try (exfalso; go_light; omega)
  go_ret
  exact ⟨rfl, HG6.out⟩
end Go.Proofs.YtobajnodckiohaaDoor
namespace Go.Proofs.YtobajnodckiohaaDoor
open Go.RowKit
set_option linter.unusedVariables false
/-- two states of the walk, ahead of a collection and behind it -/
structure RelQ (M : Nat → Nat) (T : Nat → Bool) (s t : StQ) : Prop where
  met : ∀ a, T a = true → t.1.1 (npl M T a) = s.1.1 a
  wait : t.1.2.1 = s.1.2.1.map (turnM M T)
  fine : t.2 = s.2
section
variable {N N2 : Nat} {S T : Nat → Bool} {M : Nat → Nat} {R : List Nat}
theorem lead_rel (c : CollOK N S M) (h : Stay S M R T) (hN : 2 + ksum M T N ≤ N2) {s t : StQ} (r : RelQ M T s t) {x : Nat} (hx : Wd S M R x) :
    RelQ M T (leadQ N S M s x) (leadQ N2 (newS N M T) (newM N M T) t (turnM M T x)) := by
  rcases turn_in c h hx with ⟨rfl, h1⟩ | ⟨h0, h1⟩ | ⟨a, rfl, hT, h1⟩
  · rw [h1]; unfold leadQ; rw [if_pos (Or.inl rfl), if_pos (Or.inl rfl)]; exact r
  · rw [h1]; unfold leadQ; rw [if_pos (Or.inr h0), if_pos (Or.inr h0)]; exact r
  · obtain ⟨-, f2, f3, f4⟩ := npl_fit c h hT
    obtain ⟨l1, l2, l3⟩ := c.lt (h.sub hT)
    have e1 : a * 2 / 2 = a := by omega
    have e2 : npl M T a * 2 / 2 = npl M T a := by omega
    have hnew : newS N M T (npl M T a) = true := (newS_iff c h).2 ⟨a, hT, rfl⟩
    have hwait := r.wait
    have hmet := r.met
    have hfine := r.fine
    by_cases hm : s.1.1 a = true
    · have hm2 : t.1.1 (npl M T a) = true := by rw [hmet a hT]; exact hm
      have g1 : leadQ N S M s (a * 2) = s := by
        unfold leadQ
        rw [if_neg (by omega), e1, if_pos ⟨l2, h.sub hT⟩]
        unfold lead1
        rw [if_neg (by omega), e1, if_pos hm]
      have g2 : leadQ N2 (newS N M T) (newM N M T) t (turnM M T (a * 2)) = t := by
        rw [h1]
        unfold leadQ
        rw [if_neg (by omega), e2, if_pos ⟨f4, hnew⟩]
        unfold lead1
        rw [if_neg (by omega), e2, if_pos hm2]
      rw [g1, g2]; exact r
    · have hm2 : ¬ t.1.1 (npl M T a) = true := by rw [hmet a hT]; exact hm
      have g1 : leadQ N S M s (a * 2) = ((setS N s.1.1 (a : Int) true, s.1.2.1 ++ [a * 2], s.1.2.2 + 2 + cz M a), s.2) := by
        unfold leadQ
        rw [if_neg (by omega), e1, if_pos ⟨l2, h.sub hT⟩]
        unfold lead1
        rw [if_neg (by omega), e1, if_neg hm]
      have g2 : leadQ N2 (newS N M T) (newM N M T) t (turnM M T (a * 2)) = ((setS N2 t.1.1 (npl M T a : Int) true, t.1.2.1 ++ [npl M T a * 2], t.1.2.2 + 2 + cz (newM N M T) (npl M T a)), t.2) := by
        rw [h1]
        unfold leadQ
        rw [if_neg (by omega), e2, if_pos ⟨f4, hnew⟩]
        unfold lead1
        rw [if_neg (by omega), e2, if_neg hm2]
      rw [g1, g2]
      refine ⟨fun b hb => ?_, ?_, hfine⟩
      · apply Bool.eq_iff_iff.2
        show setS N2 t.1.1 (npl M T a : Int) true (npl M T b) = true ↔ setS N s.1.1 (a : Int) true b = true
        rw [setT N2 _ _ (by omega) _, setT N _ _ l1 _]
        constructor
        · rintro (hh | hh)
          · exact Or.inl (ksum_inj (M := M) hb hT (by unfold npl at hh; omega))
          · exact Or.inr (by rw [hmet b hb] at hh; exact hh)
        · rintro (hh | hh)
          · exact Or.inl (by rw [hh])
          · exact Or.inr (by rw [hmet b hb]; exact hh)
      · show t.1.2.1 ++ [npl M T a * 2] = (s.1.2.1 ++ [a * 2]).map (turnM M T)
        rw [List.map_append, hwait, List.map_singleton, h1]
theorem allN_rel (c : CollOK N S M) (h : Stay S M R T) (hN : 2 + ksum M T N ≤ N2) {s t : StQ} (r : RelQ M T s t) {a : Nat} (ha : T a = true) (i : Nat) (hi : i = 0 ∨ (hK (M (a + 1)) ≠ 2 ∧ i ≤ (hS (M (a + 1))).toNat)) :
    RelQ M T (allNQ N S M s a i) (allNQ N2 (newS N M T) (newM N M T) t (npl M T a) i) := by
  have hW := ((h.iff a).1 ha).1
  have hSa := h.sub ha
  obtain ⟨-, -, u, -, -, h3⟩ := c.obj a hSa
  have hz := cz3 u (c.small _) h3
  induction i with
  | zero =>
    show RelQ M T (leadQ N S M s (M a)) (leadQ N2 _ _ t (newM N M T (npl M T a)))
    rw [new_cls c h ha]
    exact lead_rel c h hN r (Wd.step hW hSa List.mem_cons_self)
  | succ i ih =>
    obtain ⟨hk, hi3⟩ : hK (M (a + 1)) ≠ 2 ∧ i + 1 ≤ (hS (M (a + 1))).toNat := by
      rcases hi with hi | hi
      · omega
      · exact hi
    rw [if_neg hk] at hz
    show RelQ M T (leadQ N S M (allNQ N S M s a i) (M (a + 2 + i))) (leadQ N2 _ _ (allNQ N2 (newS N M T) (newM N M T) t (npl M T a) i) (newM N M T (npl M T a + 2 + i)))
    have hw := new_word c h ha (i := i) (by omega)
    rw [if_neg hk] at hw
    rw [hw]
    refine lead_rel c h hN (ih (Or.inr ⟨hk, by omega⟩)) (Wd.step hW hSa ?_)
    unfold wordsA
    rw [if_neg hk]
    exact List.mem_cons_of_mem _ (List.mem_map.2 ⟨i, List.mem_range.2 (by omega), rfl⟩)
theorem all_rel (c : CollOK N S M) (h : Stay S M R T) (hN : 2 + ksum M T N ≤ N2) {s t : StQ} (r : RelQ M T s t) {a : Nat} (ha : T a = true) :
    RelQ M T (allQ N S M s a) (allQ N2 (newS N M T) (newM N M T) t (npl M T a)) := by
  have e := new_head c h ha
  unfold allQ
  rw [e]
  by_cases hk : hK (M (a + 1)) = 2
  · rw [if_pos hk]; exact allN_rel c h hN r ha 0 (Or.inl rfl)
  · rw [if_neg hk]; exact allN_rel c h hN r ha _ (Or.inr ⟨hk, Nat.le_refl _⟩)
theorem rel_none : RelQ M T (((fun _ => false), [], 0), false) (((fun _ => false), [], 0), false) := ⟨fun _ _ => rfl, rfl, rfl⟩
theorem getD_turn (l : List Nat) (i : Nat) : (l.map (turnM M T)).getD i 1 = turnM M T (l.getD i 1) := by
  rw [List.getD_eq_getElem?_getD, List.getD_eq_getElem?_getD, List.getElem?_map]
  cases l[i]? with
  | none => exact (turn_odd M T rfl).symm
  | some x => rfl
theorem roots_rel (c : CollOK N S M) (h : Stay S M R T) (hN : 2 + ksum M T N ≤ N2) (i : Nat) (hi : i ≤ R.length) :
    RelQ M T (rootsQ N S M R i) (rootsQ N2 (newS N M T) (newM N M T) (R.map (turnM M T)) i) := by
  induction i with
  | zero => exact rel_none
  | succ i ih =>
    show RelQ M T (leadQ N S M _ (R.getD i 1)) (leadQ N2 _ _ _ ((R.map (turnM M T)).getD i 1))
    rw [getD_turn]
    refine lead_rel c h hN (ih (by omega)) (Wd.root ?_)
    rw [List.getD_eq_getElem?_getD, List.getElem?_eq_getElem (by omega)]
    exact List.getElem_mem (by omega)
/-- what waits is led to: an object that stays -/
theorem wait_stay (hG : GoodH N S M) (h : Stay S M R T) (i : Nat) {x : Nat} (hx : x ∈ (ordQ N S M R i).1.2.1) : ∃ a, x = a * 2 ∧ T a = true := by
  have inv := (ord_inv (R := R) hG i).inv
  obtain ⟨a, rfl, hm⟩ := inv.wait x hx
  exact ⟨a, rfl, (h.iff a).2 (inv.met a hm)⟩
theorem ord_rel (hG : GoodH N S M) (c : CollOK N S M) (h : Stay S M R T) (hN : 2 + ksum M T N ≤ N2) (i : Nat) :
    RelQ M T (ordQ N S M R i) (ordQ N2 (newS N M T) (newM N M T) (R.map (turnM M T)) i) := by
  induction i with
  | zero =>
    show RelQ M T (rootsQ N S M R R.length) (rootsQ N2 _ _ (R.map (turnM M T)) (R.map (turnM M T)).length)
    rw [List.length_map]
    exact roots_rel c h hN _ (Nat.le_refl _)
  | succ i ih =>
    have hl : (ordQ N2 (newS N M T) (newM N M T) (R.map (turnM M T)) i).1.2.1.length = (ordQ N S M R i).1.2.1.length := by rw [ih.wait, List.length_map]
    unfold ordQ
    rw [hl]
    by_cases hi : i < (ordQ N S M R i).1.2.1.length
    · rw [if_pos hi, if_pos hi]
      obtain ⟨a, ha, hT⟩ := wait_stay hG h i (List.getElem_mem hi)
      have hg := List.getElem?_eq_getElem hi
      rw [ha] at hg
      have e1 : (ordQ N S M R i).1.2.1.getD i 0 = a * 2 := by rw [List.getD_eq_getElem?_getD, hg]; rfl
      have e2 : (ordQ N2 (newS N M T) (newM N M T) (R.map (turnM M T)) i).1.2.1.getD i 0 = npl M T a * 2 := by
        rw [ih.wait, List.getD_eq_getElem?_getD, List.getElem?_map, hg]
        show turnM M T (a * 2) = _
        exact turn_obj (by have := (c.lt (h.sub hT)).2.2; omega) (c.lt (h.sub hT)).2.1 hT
      rw [e1, e2, show a * 2 / 2 = a by omega, show npl M T a * 2 / 2 = npl M T a by omega]
      exact all_rel c h hN ih hT
    · rw [if_neg hi, if_neg hi]; exact ih
end
theorem ordQ_stop {N : Nat} {S : Nat → Bool} {M : Nat → Nat} {R : List Nat} {m : Nat} (h : (ordQ N S M R m).1.2.1.length = m) (d : Nat) : ordQ N S M R (m + d) = ordQ N S M R m := by
  induction d with
  | zero => rfl
  | succ d ih =>
    rw [show m + (d + 1) = (m + d) + 1 by omega]
    show (if m + d < (ordQ N S M R (m + d)).1.2.1.length then _ else ordQ N S M R (m + d)) = _
    rw [if_neg (by rw [ih]; omega), ih]
theorem ordQ_one {N : Nat} {S : Nat → Bool} {M : Nat → Nat} {R : List Nat} {m k : Nat} (h : (ordQ N S M R m).1.2.1.length = m) (h2 : (ordQ N S M R k).1.2.1.length = k) : k = m := by
  rcases Nat.le_total m k with hl | hl
  · obtain ⟨d, rfl⟩ : ∃ d, k = m + d := ⟨k - m, by omega⟩
    rw [ordQ_stop h] at h2; omega
  · obtain ⟨d, rfl⟩ : ∃ d, m = k + d := ⟨m - k, by omega⟩
    rw [ordQ_stop h2] at h; omega
/-- the order behind it is the order ahead, turned -/
theorem order_turned {N N2 : Nat} {S T : Nat → Bool} {M : Nat → Nat} {R : List Nat} (hG : GoodH N S M) (c : CollOK N S M) (h : Stay S M R T) (hN : 2 + ksum M T N ≤ N2) {l l' : List Nat} {m m' : Nat} (h1 : l = (ordQ N S M R m).1.2.1) (h2 : l.length = m)
    (h3 : l' = (ordQ N2 (newS N M T) (newM N M T) (R.map (turnM M T)) m').1.2.1) (h4 : l'.length = m') : l' = l.map (turnM M T) ∧ ∀ x, x ∈ l → ∃ a, x = a * 2 ∧ T a = true := by
  have r := ord_rel hG c h hN m
  have hl : (ordQ N2 (newS N M T) (newM N M T) (R.map (turnM M T)) m).1.2.1.length = m := by rw [r.wait, List.length_map, ← h1, h2]
  have hmm : m' = m := ordQ_one hl (by rw [← h3]; exact h4)
  subst hmm
  exact ⟨by rw [h3, r.wait, ← h1], fun x hx => wait_stay hG h m' (by rw [← h1]; exact hx)⟩
end Go.Proofs.YtobajnodckiohaaDoor
namespace Go.Proofs.YtobajnodckiohaaDoor
open Go.RowKit
set_option linter.unusedVariables false
/-- words that lead on -/
def ptrB (x : Nat) : Bool := decide (x ≠ 0) && decide (x % 2 = 0)
def ptrL (l : List Nat) : List Nat := l.filter ptrB
theorem ptrL_snoc {l : List Nat} {i : Nat} (hi : i < l.length) : ptrL (l.take (i + 1)) = ptrL (l.take i) ++ if ptrB (l.getD i 0) = true then [l.getD i 0] else [] := by
  have e : l.getD i 0 = l[i] := by rw [List.getD_eq_getElem?_getD, List.getElem?_eq_getElem hi]; rfl
  rw [e, List.take_succ_eq_append_getElem hi]
  unfold ptrL
  rw [List.filter_append]
  congr 1
  cases h : ptrB l[i] <;> simp [h]
end Go.Proofs.YtobajnodckiohaaDoor
namespace Go.Proofs.YtobajnodckiohaaDoor
open Go.RowKit
set_option linter.unusedVariables false
set_option maxRecDepth 100000 in
theorem rfind_no (C : Nat) (cells : Int) (lv : Value) (os : List RO) (x : Nat) (w : World) (h : RObjs C w lv os) (hb : ∀ o, o ∈ os → o.at_ ≤ 1000000) (hno : ∀ (i : Nat) (o : RO), os[i]? = some o → o.at_ * 2 ≠ x) :
    Calls Tryd.prog 61 #[.agg #[.int .i64 cells, lv, .int .u32 0], .int .u64 (x : Int)] w fun e w' => e = .returned (.int .i64 (-1)) ∧ Below w.heap.size w w' := by
  obtain ⟨a, cap, rfl, h1, h2, h3⟩ := h.get
  unfold maxLen at h2
  have H3 := Lib.hid (show ∀ W, Below w.heap.size w W → ∀ i o, os[i]? = some o → ∃ b q, a = some ⟨b, q, none⟩ ∧ W.cell? ⟨b, q + i * 8, none⟩ = some (.int .i64 (o.at_ : Int)) from fun W hW i o ho => by
    obtain ⟨b, q, wv, bv, ha, hbl, c0, -⟩ := h3 i o ho
    exact ⟨b, q, ha, (hW.cell (p := ⟨b, q + i * 8, none⟩) hbl).trans c0⟩)
  have HLT := Lib.hid hno
  have HB := Lib.hid hb
  clear h3 h hno hb
  go_enter Tryd.func61, Tryd.ntmps61
  go_wp2_with fail
  obtain ⟨w1, hw1⟩ : ∃ w1, w1 = w.alloc (.cells #[.int .i64 cells, .slice a os.length cap, .int .u32 0] 31) := ⟨_, rfl⟩
  have hx := heap_alloc_new w (.cells #[.int .i64 cells, .slice a os.length cap, .int .u32 0] 31)
  rw [← hw1] at hx ⊢
  have HB1 := Lib.hid (show Below w.heap.size w w1 by rw [hw1]; exact (Below.refl _ w).alloc (Nat.le_refl _) _)
  have HC := Lib.hid hx
  have hz1 : w.heap.size < w1.heap.size := (Array.getElem?_eq_some_iff.1 hx).1
  clear hw1 hx
  go_loopg [5] os.length (fun gg s5 wr => ∃ i : Nat, gg = os.length - i ∧ i ≤ os.length ∧ s5 = .int .i64 (i : Int) ∧ Below w1.heap.size w1 wr)
  case atStart => exact ⟨0, rfl, by omega, rfl, Below.refl _ _⟩
  case round =>
    obtain ⟨i, hgi, hi, rfl, hg⟩ := hrel
    have HGI := Lib.hid hgi; have HG := Lib.hid hg
    have hx := (hg.block w.heap.size hz1).trans HC.out
    have z1 := cellO hx 1
    simp at z1
    have hbw := HB1.out.trans (hg.mono HB1.out.size)
    clear hgi hg hx
    by_cases hil : i < os.length
    · obtain ⟨b, q, rfl, hc⟩ := H3.out wr hbw i os[i] (List.getElem?_eq_getElem hil)
      have ha := HB.out os[i] (List.getElem_mem hil)
      have hne := HLT.out i os[i] (List.getElem?_eq_getElem hil)
      have HBW := Lib.hid hbw
      have he : ¬ (os[i].at_ : Int) * 2 = (x : Int) := by omega
      clear hbw hne
      generalize os[i] = o at *
      obtain ⟨at_, cls, kind, words, bytes⟩ := o
      dsimp only at *
      go_wp2_with fail
      all_goals (try (exfalso; go_light; omega))
      go_roundg (os.length - (i + 1))
      case measure => rw [HGI.out]; omega
      case rel => exact ⟨i + 1, rfl, by omega, by go_num, HG.out⟩
    · have HBW := Lib.hid hbw
      clear hbw
      go_wp2_with fail
      all_goals (try (exfalso; go_light; omega))
      go_ret
      exact ⟨rfl, HBW.out⟩
/-- where an object of the list stands -/
def atR (os : List RO) (k : Nat) : Nat := (os.getD k ⟨0, 0, 0, [], []⟩).at_
def idxVals (ks : List Nat) : List Value := ks.map fun (k : Nat) => Value.int .i64 (k : Int)
theorem atR_eq {os : List RO} {k : Nat} {o : RO} (h : os[k]? = some o) : atR os k = o.at_ := by unfold atR; rw [List.getD_eq_getElem?_getD, h]; rfl
/-- a list of places in the document's list is the walk's -/
structure RState (os : List RO) (s : StQ) (ks : List Nat) : Prop where
  fine : s.2 = false
  wait : s.1.2.1 = ks.map fun k => atR os k * 2
  lt : ∀ k, k ∈ ks → k < os.length
section
variable {N : Nat} {S : Nat → Bool} {M : Nat → Nat} {free : Nat} {os : List RO}
theorem Lays.atR_inj (h : Lays free S M os) {i j : Nat} (hi : i < os.length) (hj : j < os.length) (he : atR os i = atR os j) : i = j := by
  have g1 := List.getElem?_eq_getElem hi
  have g2 := List.getElem?_eq_getElem hj
  rw [atR_eq g1, atR_eq g2] at he
  rcases Nat.lt_trichotomy i j with hl | hl | hl
  · have := h.ord i j _ _ hl g1 g2; omega
  · exact hl
  · have := h.ord j i _ _ hl g2 g1; omega
theorem Lays.isAtR (h : Lays free S M os) {k : Nat} (hk : k < os.length) : IsAt os (atR os k * 2) k := by
  refine ⟨⟨_, List.getElem?_eq_getElem hk, by rw [atR_eq (List.getElem?_eq_getElem hk)]⟩, fun j o hj ho he => ?_⟩
  have := h.atR_inj (List.getElem?_eq_some_iff.1 ho).1 hk (by rw [atR_eq ho]; omega)
  omega
theorem found_or {os : List RO} (x : Nat) : (∃ k, k < os.length ∧ x = atR os k * 2) ∨ ∀ (i : Nat) (o : RO), os[i]? = some o → o.at_ * 2 ≠ x := by
  by_cases h : ∃ k, k < os.length ∧ x = atR os k * 2
  · exact Or.inl h
  · refine Or.inr fun i o ho he => h ⟨i, (List.getElem?_eq_some_iff.1 ho).1, by rw [atR_eq ho]; exact he.symm⟩
theorem Lays.atR_good (h : Lays free S M os) (hf : free ≤ N) {k : Nat} (hk : k < os.length) : S (atR os k) = true ∧ 2 ≤ atR os k ∧ atR os k < N := by
  have g := List.getElem?_eq_getElem hk
  have hL := h.obj k _ g
  rw [atR_eq g]
  have := hL.fit
  exact ⟨hL.here, hL.two, by omega⟩
theorem lead_met (h : Lays free S M os) (hf : free ≤ N) (hN : N ≤ 16777216) {s : StQ} {k : Nat} (hk : k < os.length) (hm : s.1.1 (atR os k) = true) : leadQ N S M s (atR os k * 2) = s := by
  obtain ⟨g1, g2, g3⟩ := h.atR_good hf hk
  unfold leadQ
  rw [if_neg (by omega), show atR os k * 2 / 2 = atR os k by omega, if_pos ⟨by omega, g1⟩]
  unfold lead1
  rw [if_neg (by omega), show atR os k * 2 / 2 = atR os k by omega, if_pos hm]
theorem lead_push (h : Lays free S M os) (hf : free ≤ N) (hN : N ≤ 16777216) {s : StQ} {k : Nat} {ks : List Nat} (hk : k < os.length) (hm : s.1.1 (atR os k) = false) (r : RState os s ks) :
    RState os (leadQ N S M s (atR os k * 2)) (ks ++ [k]) ∧ ∀ j, j < os.length → (leadQ N S M s (atR os k * 2)).1.1 (atR os j) = if j = k then true else s.1.1 (atR os j) := by
  obtain ⟨g1, g2, g3⟩ := h.atR_good hf hk
  have e : leadQ N S M s (atR os k * 2) = ((setS N s.1.1 (atR os k : Int) true, s.1.2.1 ++ [atR os k * 2], s.1.2.2 + 2 + cz M (atR os k)), s.2) := by
    unfold leadQ
    rw [if_neg (by omega), show atR os k * 2 / 2 = atR os k by omega, if_pos ⟨by omega, g1⟩]
    unfold lead1
    rw [if_neg (by omega), show atR os k * 2 / 2 = atR os k by omega, if_neg (by rw [hm]; simp)]
  rw [e]
  refine ⟨⟨r.fine, ?_, fun j hj => ?_⟩, fun j hj => ?_⟩
  · show s.1.2.1 ++ [atR os k * 2] = _
    rw [r.wait, List.map_append]; rfl
  · rcases List.mem_append.1 hj with hj | hj
    · exact r.lt j hj
    · have : j = k := by simpa using hj
      omega
  · show setS N s.1.1 (atR os k : Int) true (atR os j) = _
    apply Bool.eq_iff_iff.2
    rw [setT N _ _ g3 _]
    by_cases hjk : j = k
    · subst hjk; simp
    · rw [if_neg hjk]
      constructor
      · rintro (hh | hh)
        · exact absurd (h.atR_inj hj hk hh) hjk
        · exact hh
      · exact fun hh => Or.inr hh
end
section
variable {N : Nat} {S : Nat → Bool} {M : Nat → Nat} {R : List Nat}
abbrev noneQ : StQ := (((fun _ => false), [], 0), false)
def foldQ (N : Nat) (S : Nat → Bool) (M : Nat → Nat) (s : StQ) (l : List Nat) : StQ := l.foldl (leadQ N S M) s
theorem foldQ_snoc (s : StQ) (l : List Nat) {i : Nat} (hi : i < l.length) : foldQ N S M s (l.take (i + 1)) = leadQ N S M (foldQ N S M s (l.take i)) (l.getD i 0) := by
  unfold foldQ
  rw [List.take_succ_eq_append_getElem hi, List.foldl_append, List.getD_eq_getElem?_getD, List.getElem?_eq_getElem hi]
  rfl
theorem foldQ_ptr (s : StQ) (l : List Nat) : foldQ N S M s (ptrL l) = foldQ N S M s l := by
  induction l generalizing s with
  | nil => rfl
  | cons x l ih =>
    unfold ptrL
    rw [List.filter_cons]
    by_cases hx : ptrB x = true
    · rw [if_pos hx]
      exact ih (leadQ N S M s x)
    · rw [if_neg hx]
      have hid : leadQ N S M s x = s := by
        unfold leadQ
        rw [if_pos]
        unfold ptrB at hx
        by_cases h0 : x = 0
        · exact Or.inl h0
        · refine Or.inr ?_
          simp at hx
          exact hx h0
      show foldQ N S M s (ptrL l) = foldQ N S M (leadQ N S M s x) l
      rw [hid]; exact ih s
theorem rootsQ_fold (i : Nat) (hi : i ≤ R.length) : rootsQ N S M R i = foldQ N S M noneQ (R.take i) := by
  induction i with
  | zero => rfl
  | succ i ih =>
    rw [foldQ_snoc _ _ (by omega), ← ih (by omega)]
    show leadQ N S M (rootsQ N S M R i) (R.getD i 1) = _
    rw [List.getD_eq_getElem?_getD, List.getD_eq_getElem?_getD, List.getElem?_eq_getElem (by omega)]
    rfl
theorem allNQ_fold (s : StQ) (a i : Nat) : allNQ N S M s a i = foldQ N S M s (M a :: (List.range i).map fun j => M (a + 2 + j)) := by
  induction i with
  | zero => rfl
  | succ i ih =>
    show leadQ N S M (allNQ N S M s a i) (M (a + 2 + i)) = _
    rw [ih]
    unfold foldQ
    rw [List.range_succ, List.map_append, List.foldl_cons, List.foldl_cons, List.foldl_append]
    rfl
theorem allQ_fold (s : StQ) (a : Nat) : allQ N S M s a = foldQ N S M s (wordsA M a) := by
  unfold allQ
  rw [allNQ_fold, wordsA_eq]
/-- the state ahead of a round, and the words that it goes through -/
def preQ (N : Nat) (S : Nat → Bool) (M : Nat → Nat) (R : List Nat) : Nat → StQ
  | 0 => noneQ
  | n + 1 => ordQ N S M R n
def listQ (N : Nat) (S : Nat → Bool) (M : Nat → Nat) (R : List Nat) : Nat → List Nat
  | 0 => R
  | n + 1 => if n < (ordQ N S M R n).1.2.1.length then wordsA M ((ordQ N S M R n).1.2.1.getD n 0 / 2) else []
theorem round_fold (n : Nat) : foldQ N S M (preQ N S M R n) (ptrL (listQ N S M R n)) = preQ N S M R (n + 1) := by
  rw [foldQ_ptr]
  cases n with
  | zero =>
    show foldQ N S M noneQ R = rootsQ N S M R R.length
    rw [rootsQ_fold R.length (Nat.le_refl _), List.take_length]
  | succ n =>
    show foldQ N S M (ordQ N S M R n) (if _ then _ else _) = (if n < (ordQ N S M R n).1.2.1.length then _ else ordQ N S M R n)
    by_cases h : n < (ordQ N S M R n).1.2.1.length
    · rw [if_pos h, if_pos h, allQ_fold]
    · rw [if_neg h, if_neg h]; rfl
theorem pre_mono (hG : GoodH N S M) (n : Nat) : (preQ N S M R n).1.2.1.length ≤ (preQ N S M R (n + 1)).1.2.1.length := by
  cases n with
  | zero => exact Nat.zero_le _
  | succ n => exact (ord_ext (R := R) hG n).2.1.length_le
theorem pre_bd (hG : GoodH N S M) (n : Nat) : (preQ N S M R n).1.2.1.length ≤ N := by
  cases n with
  | zero => exact Nat.zero_le _
  | succ n =>
    have h := (ord_inv (R := R) hG n).inv
    have h2 := cnt_le (ordQ N S M R n).1.1 N
    show (ordQ N S M R n).1.2.1.length ≤ N
    rw [h.len]; exact h2
end
theorem leads_words {free : Nat} {S : Nat → Bool} {M : Nat → Nat} {os : List RO} (h : Lays free S M os) {k : Nat} {o : RO} (ho : os[k]? = some o) : wordsA M o.at_ = o.cls :: o.words := by
  have hL := h.obj k o ho
  obtain ⟨-, u2, u3⟩ := hL.un
  unfold wordsA
  rw [hL.cls, u2, u3]
  by_cases hk : o.kind = 2
  · rw [if_pos hk, hL.raw hk]
  · rw [if_neg hk]
    obtain ⟨hl, hw⟩ := hL.words hk
    congr 1
    apply List.ext_getElem
    · rw [List.length_map, List.length_range, hl]; rfl
    · intro i h1 h2
      rw [List.getElem_map, List.getElem_range, hw i (by omega), List.getD_eq_getElem?_getD, List.getElem?_eq_getElem h2]
      rfl
theorem words_small {free : Nat} {S : Nat → Bool} {M : Nat → Nat} {os : List RO} (h : Lays free S M os) (hM : ∀ i, M i < 18446744073709551616) {k : Nat} {o : RO} (ho : os[k]? = some o) : o.words.length ≤ 3 ∧ ∀ x, x ∈ o.words → x < 18446744073709551616 := by
  have hL := h.obj k o ho
  by_cases hk : o.kind = 2
  · rw [hL.raw hk]; exact ⟨by simp, fun x hx => by cases hx⟩
  · obtain ⟨hl, hw⟩ := hL.words hk
    refine ⟨by omega, fun x hx => ?_⟩
    obtain ⟨i, hi, rfl⟩ := List.getElem_of_mem hx
    have := hw i (by omega)
    rw [List.getD_eq_getElem?_getD, List.getElem?_eq_getElem hi] at this
    have h2 := hM (o.at_ + 2 + i)
    rw [this] at h2
    exact h2
end Go.Proofs.YtobajnodckiohaaDoor
namespace Go.Proofs.YtobajnodckiohaaDoor
open Go.RowKit
set_option linter.unusedVariables false
theorem owns_len {w : World} {B e s n : Nat} {v : Value} {xs : List Value} (h : w.ownsRow B e s v n xs) : ∃ a c, v = .slice a n c := by
  rcases h.2 with ⟨hv, h0⟩ | ⟨g, cap, cur, hv, -⟩
  · exact ⟨none, 0, by rw [hv, h0]⟩
  · exact ⟨_, _, hv⟩
theorem list_bd {N : Nat} {S : Nat → Bool} {M : Nat → Nat} {R : List Nat} (hG : GoodH N S M) (hr : R.length ≤ 100) (n : Nat) : (ptrL (listQ N S M R n)).length ≤ N + 101 := by
  have h1 : (ptrL (listQ N S M R n)).length ≤ (listQ N S M R n).length := List.length_filter_le _ _
  have h2 : (listQ N S M R n).length ≤ N + 101 := by
    cases n with
    | zero => show R.length ≤ _; omega
    | succ n =>
      show (if n < (ordQ N S M R n).1.2.1.length then _ else []).length ≤ _
      by_cases hl : n < (ordQ N S M R n).1.2.1.length
      · rw [if_pos hl]
        obtain ⟨a, ha, hm⟩ := (ord_inv (R := R) hG n).inv.wait _ (List.getElem_mem hl)
        have hS := ((ord_inv (R := R) hG n).inv.met a hm).2
        rw [List.getD_eq_getElem?_getD, List.getElem?_eq_getElem hl, ha]
        show (wordsA M (a * 2 / 2)).length ≤ _
        rw [show a * 2 / 2 = a by omega]
        obtain ⟨-, g⟩ := hG a hS
        unfold wordsA
        by_cases hk : hK (M (a + 1)) = 2
        · rw [if_pos hk]; simp
        · rw [if_neg hk, List.length_cons, List.length_map, List.length_range]
          have := g hk
          omega
      · rw [if_neg hl]; simp
  omega
theorem boolInfoR : (Tryd.prog.info? 4).map (fun i => (i.zero, i.size, i.bytes)) = some (some (.bool false), 1, 1) := by kernel_rfl
end Go.Proofs.YtobajnodckiohaaDoor
