/- The law's fixed fact of layer 6. Order behind a collection: the same objects in the same order: the plain law. The document's order: what the words lead to, as it is first met. The document's order is the order of the walk, unless something is loose. The document's Order, walked. -/
import Derived.Test.YtffbhocgjpdjpaaDoorCollH
import Derived.Test.YtffbhocgjpdjpaaDoorLayOpen
namespace Go.Proofs.YtffbhocgjpdjpaaDoor
open Go.RowKit
set_option linter.unusedVariables false
def gS1 : Nat → Bool := setS 40 (fun _ => false) ((2 : Nat) : Int) true
def gM1 : Nat → Nat := fillM (put2 (fun _ => 0) 2 4 (packZ 0 ((1 : Nat) : Int) 0 false).toNat) (2 + 2) 1 1
def gS2 : Nat → Bool := setS 40 gS1 ((5 : Nat) : Int) true
def gM2 : Nat → Nat := fillM (put2 gM1 5 4 (packZ 1 ((1 : Nat) : Int) 0 false).toNat) (5 + 2) 1 1
def gS3 : Nat → Bool := setS 40 gS2 ((8 : Nat) : Int) true
def gM3 : Nat → Nat := fillM (put2 gM2 8 4 (packZ 1 ((1 : Nat) : Int) 0 false).toNat) (8 + 2) 1 4
theorem gS_iff (a : Nat) : gS3 a = true ↔ a = 8 ∨ a = 5 ∨ a = 2 := by
  unfold gS3 gS2 gS1
  rw [setT 40 8 _ (by omega) a, setT 40 5 _ (by omega) a, setT 40 2 _ (by omega) a]
  constructor
  · rintro (h | h | h | h)
    · exact Or.inl h
    · exact Or.inr (Or.inl h)
    · exact Or.inr (Or.inr h)
    · cases h
  · rintro (h | h | h)
    · exact Or.inl h
    · exact Or.inr (Or.inl h)
    · exact Or.inr (Or.inr (Or.inl h))
theorem gM_at : (gM3 2 = 4 ∧ gM3 (2 + 1) = 1 ∧ gM3 (2 + 2) = 1) ∧ (gM3 5 = 4 ∧ gM3 (5 + 1) = 4294967297 ∧ gM3 (5 + 2) = 1) ∧ (gM3 8 = 4 ∧ gM3 (8 + 1) = 4294967297 ∧ gM3 (8 + 2) = 4) := ⟨⟨rfl, rfl, rfl⟩, ⟨rfl, rfl, rfl⟩, ⟨rfl, rfl, rfl⟩⟩
theorem g_heads : UnOK ((4 : Nat) : Int) ((4294967297 : Nat) : Int) ∧ hK ((4294967297 : Nat) : Int) = 1 ∧ hS ((4294967297 : Nat) : Int) = 1 ∧ hH ((4294967297 : Nat) : Int) = 0 ∧ UnOK ((4 : Nat) : Int) ((1 : Nat) : Int) ∧ hK ((1 : Nat) : Int) = 0 ∧ hS ((1 : Nat) : Int) = 1 ∧ hH ((1 : Nat) : Int) = 0 := by unfold UnOK hS hK hH; decide
theorem g_cz : cz gM3 2 = 1 ∧ cz gM3 5 = 1 ∧ cz gM3 8 = 1 := ⟨by decide +kernel, by decide +kernel, by decide +kernel⟩
theorem g_obj (a : Nat) (ha : gS3 a = true) : 2 ≤ a ∧ a + 3 ≤ 40 ∧ cz gM3 a = 1 ∧ UnOK (gM3 a) (gM3 (a + 1)) ∧ hH (gM3 (a + 1)) = 0 ∧ hS (gM3 (a + 1)) = 1 ∧ hK (gM3 (a + 1)) ≠ 2 ∧ wordsA gM3 a = [4, gM3 (a + 2)] ∧ (gM3 (a + 2) = 1 ∨ gM3 (a + 2) = 4) := by
  obtain ⟨⟨b1, b2, b3⟩, ⟨c1, c2, c3⟩, ⟨d1, d2, d3⟩⟩ := gM_at
  obtain ⟨u1, k1, s1, h1, u0, k0, s0, h0⟩ := g_heads
  obtain ⟨z1, z2, z3⟩ := g_cz
  rcases (gS_iff a).1 ha with rfl | rfl | rfl
  · refine ⟨by omega, by omega, z3, by rw [d1, d2]; exact u1, by rw [d2]; exact h1, by rw [d2]; exact s1, by rw [d2, k1]; decide, ?_, Or.inr d3⟩
    unfold wordsA
    rw [d1, d2, k1, s1, if_neg (by decide)]; rfl
  · refine ⟨by omega, by omega, z2, by rw [c1, c2]; exact u1, by rw [c2]; exact h1, by rw [c2]; exact s1, by rw [c2, k1]; decide, ?_, Or.inl c3⟩
    unfold wordsA
    rw [c1, c2, k1, s1, if_neg (by decide)]; rfl
  · refine ⟨by omega, by omega, z1, by rw [b1, b2]; exact u0, by rw [b2]; exact h0, by rw [b2]; exact s0, by rw [b2, k0]; decide, ?_, Or.inl b3⟩
    unfold wordsA
    rw [b1, b2, k0, s0, if_neg (by decide)]; rfl
theorem g_good : GoodH 40 gS3 gM3 := by
  intro a ha
  obtain ⟨h1, h2, h3, h4, h5, h6, h7, -⟩ := g_obj a ha
  exact ⟨⟨by omega, by omega, ha, h4⟩, fun hk => by rw [h6]; show a + 2 + 1 ≤ 40; omega⟩
theorem g_ksum : 2 + ksum gM3 gS3 40 ≤ 40 := by decide +kernel
theorem g_coll (hM : ∀ i, gM3 i < 18446744073709551616) : CollOK 40 gS3 gM3 := by
  refine ⟨fun a ha => ?_, hM, by omega, g_ksum⟩
  obtain ⟨h1, h2, h3, h4, h5, h6, h7, -⟩ := g_obj a ha
  exact ⟨h1, by omega, h4, h5, by omega, fun hk => absurd hk h7⟩
theorem g_wd {x : Nat} (h : Wd gS3 gM3 [16] x) : x = 16 ∨ x = 4 ∨ x = 1 := by
  induction h with
  | root hx => left; simpa using hx
  | @step a y _ hs hy ih =>
    obtain ⟨-, -, -, -, -, -, -, hw, h8⟩ := g_obj a hs
    rw [hw] at hy
    rcases List.mem_cons.1 hy with rfl | hy
    · exact Or.inr (Or.inl rfl)
    · have : y = gM3 (a + 2) := by simpa using hy
      rcases h8 with h8 | h8
      · exact Or.inr (Or.inr (by rw [this, h8]))
      · exact Or.inr (Or.inl (by rw [this, h8]))
def gT : Nat → Bool := fun a => decide (a = 2 ∨ a = 8)
theorem g_stay {T : Nat → Bool} (h : Stay gS3 gM3 [16] T) : T = gT := by
  funext a
  apply Bool.eq_iff_iff.2
  rw [h.iff a]
  unfold gT
  rw [decide_eq_true_iff]
  have r8 : Wd gS3 gM3 [16] (8 * 2) := Wd.root (by simp)
  have s8 : gS3 8 = true := (gS_iff 8).2 (Or.inl rfl)
  have r2 : Wd gS3 gM3 [16] (2 * 2) := Wd.step r8 s8 (by rw [(g_obj 8 s8).2.2.2.2.2.2.2.1]; simp)
  constructor
  · rintro ⟨h1, h2⟩
    have := g_wd h1
    have := (gS_iff a).1 h2
    omega
  · rintro (rfl | rfl)
    · exact ⟨r2, (gS_iff 2).2 (Or.inr (Or.inr rfl))⟩
    · exact ⟨r8, s8⟩
theorem g_fine : ¬ Bad gS3 gM3 [16] := by
  rintro ⟨y, hy, y0, y1, y2⟩
  rcases g_wd hy with rfl | rfl | rfl
  · exact y2 ⟨by omega, (gS_iff 8).2 (Or.inl rfl)⟩
  · exact y2 ⟨by omega, (gS_iff 2).2 (Or.inr (Or.inr rfl))⟩
  · omega
theorem g_end : turnM gM3 gT 16 = 10 ∧ 2 + ksum gM3 gT 40 = 8 := ⟨by decide +kernel, by decide +kernel⟩
theorem checkG0 : checkZ ((4 : Nat) : Int) 0 ((1 : Nat) : Int) 0 = 0 := by rw [checkZ_ok]; exact ⟨by decide, by decide, by decide, by decide, by decide, by decide, by decide⟩
theorem checkG1 : checkZ ((4 : Nat) : Int) 1 ((1 : Nat) : Int) 0 = 0 := by rw [checkZ_ok]; exact ⟨by decide, by decide, by decide, by decide, by decide, by decide, by decide⟩
theorem ag1 (B h : Nat) (w : World) (H : HeapAt w B h 40 2 (fun _ => false) (fun _ => 0)) (hB : B ≤ w.heap.size) :
    Calls Tryd.prog 35 #[.pointer (some ⟨h, 0, none⟩), .int .u64 4, .int .i64 0, .int .i64 1, .int .u64 1] w fun e w' => e = .returned (.tuple #[.int .u64 4, .int .i64 0]) ∧ HeapAt w' B h 40 5 gS1 gM1 ∧ Below B w w' := by
  refine (alloc_slots B h 40 2 4 1 1 0 _ _ w H hB (by omega) checkG0 (by omega) (by omega) (by omega) (by omega)).mono ?_
  rintro e w' ⟨rfl, h1, h2⟩
  exact ⟨rfl, h1, h2⟩
theorem ag2 (B h : Nat) (w : World) (H : HeapAt w B h 40 5 gS1 gM1) (hB : B ≤ w.heap.size) :
    Calls Tryd.prog 35 #[.pointer (some ⟨h, 0, none⟩), .int .u64 4, .int .i64 1, .int .i64 1, .int .u64 1] w fun e w' => e = .returned (.tuple #[.int .u64 10, .int .i64 0]) ∧ HeapAt w' B h 40 8 gS2 gM2 ∧ Below B w w' := by
  refine (alloc_slots B h 40 5 4 1 1 1 _ _ w H hB (by omega) checkG1 (by omega) (by omega) (by omega) (by omega)).mono ?_
  rintro e w' ⟨rfl, h1, h2⟩
  exact ⟨rfl, h1, h2⟩
theorem ag3 (B h : Nat) (w : World) (H : HeapAt w B h 40 8 gS2 gM2) (hB : B ≤ w.heap.size) :
    Calls Tryd.prog 35 #[.pointer (some ⟨h, 0, none⟩), .int .u64 4, .int .i64 1, .int .i64 1, .int .u64 4] w fun e w' => e = .returned (.tuple #[.int .u64 16, .int .i64 0]) ∧ HeapAt w' B h 40 11 gS3 gM3 ∧ Below B w w' := by
  refine (alloc_slots B h 40 8 4 1 4 1 _ _ w H hB (by omega) checkG1 (by omega) (by omega) (by omega) (by omega)).mono ?_
  rintro e w' ⟨rfl, h1, h2⟩
  exact ⟨rfl, h1, h2⟩
/-- what a collection of it comes to -/
theorem coll06 (B h : Nat) (v : Value) (w : World) (H : HeapAt w B h 40 11 gS3 gM3) (hB : B ≤ w.heap.size) (hv : WordsAt w v [16]) (hT : TabAt 0 Lib.deBruijn64tab w) :
    Calls Tryd.prog 12 #[.pointer (some ⟨h, 0, none⟩), v] w fun e w' => ∃ (b o c : Nat) (S : Nat → Bool) (M : Nat → Nat), e = .returned (.tuple #[.slice (some ⟨b, o, none⟩) 1 c, .int .i64 0]) ∧ w'.cell? ⟨b, o, none⟩ = some (.int .u64 10) ∧ 1 ≤ c ∧ HeapAt w' B h 40 8 S M ∧ Below B w w' := by
  have hM : ∀ i, gM3 i < 18446744073709551616 := by obtain ⟨g, s, -, -, -, -, -, -, -, h, -⟩ := H; exact h
  refine (collect_any B h 40 11 gS3 gM3 [16] v w H hB g_good (g_coll hM) hv (fun x hx => by simp at hx; omega) (by simp) hT (by omega) (by omega)).mono ?_
  rintro e w' ⟨cv, r, rfl, hb, -, ⟨hbad, -⟩ | ⟨rfl, T, hst, hout, hh⟩⟩
  · exact absurd hbad g_fine
  · obtain rfl := g_stay hst
    obtain ⟨e1, e2⟩ := g_end
    rw [List.map_singleton, e1] at hout
    rw [e2] at hh
    obtain ⟨ba, bc, rfl, bl1, bl2, bl3⟩ := (words_of_owns hout).get
    obtain ⟨bb, bo, rfl, bl4, hb0⟩ := bl3 0 (by simp)
    exact ⟨bb, bo, bc, _, _, rfl, hb0, by simpa using bl1, hh, hb⟩
set_option maxRecDepth 100000 in
set_option maxHeartbeats 1600000 in
theorem awake6 (w : World) (hT : TabAt 0 Lib.deBruijn64tab w) : Calls Tryd.prog 24 #[] w fun e w' => e = .returned (.bool true) ∧ Below w.heap.size w w' := by
  have NW := Lib.hid (new_yes 40 (by omega) (by omega) w)
  have HT := Lib.hid hT
  clear hT
  go_enter Tryd.func24, Tryd.ntmps24
  go_wp2_with fail
  refine NW.out.mono ?_
  rintro e w1 ⟨h, rfl, hh, hg⟩
  have AL := Lib.hid (ag1 _ h w1 hh hg.size)
  have HG1 := Lib.hid hg; clear hh hg
  go_wp2_with fail
  refine AL.out.mono ?_
  rintro e w2 ⟨rfl, hh, hg⟩
  have HG2 := Lib.hid (HG1.out.trans hg)
  have AO := Lib.hid (ag2 _ h w2 hh HG2.out.size)
  clear hh hg
  go_wp2_with fail
  refine AO.out.mono ?_
  rintro e w3 ⟨rfl, hh, hg⟩
  have HG3 := Lib.hid (HG2.out.trans hg)
  have AP := Lib.hid (ag3 _ h w3 hh HG3.out.size)
  clear hh hg
  go_wp2_with fail
  refine AP.out.mono ?_
  rintro e w4 ⟨rfl, hh, hg⟩
  have HG4 := Lib.hid (HG3.out.trans hg)
  have HH4 := Lib.hid hh
  clear hh hg
  go_wp2_with fail
  have hw1 := words_one' w4 16 49
  have hb5 : Below w4.heap.size w4 (w4.alloc (.cells #[.int .u64 ((16 : Nat) : Int)] 49)) := (Below.refl _ w4).alloc (Nat.le_refl _) _
  rw [show ((16 : Nat) : Int) = 16 by rfl] at hw1 hb5
  generalize w4.alloc (.cells #[.int .u64 16] 49) = w5 at *
  have HG5 := Lib.hid (HG4.out.trans (hb5.mono HG4.out.size))
  refine (coll06 _ h _ w5 (HH4.out.later hb5) HG5.out.size hw1 (tab_later HT.out HG5.out)).mono ?_
  rintro e w6 ⟨b, o, c, S, M, rfl, hc, hc1, hh, hg⟩
  have HG6 := Lib.hid (HG5.out.trans hg)
  have US := Lib.hid (used_any _ h 40 8 S M w6 hh)
  clear hw1 hb5 hh hg
  go_wp2_with fail
  refine US.out.mono ?_
  rintro e w7 ⟨rfl, rfl⟩
  go_wp2_with fail
  all_goals try (exfalso; go_light; omega)
  go_ret
  exact ⟨rfl, HG6.out⟩
end Go.Proofs.YtffbhocgjpdjpaaDoor
namespace Go.Proofs.YtffbhocgjpdjpaaDoor
open Go.RowKit
set_option linter.unusedVariables false
/-- two states of the walk, ahead of a collection and behind it -/
structure RelQ (M : Nat → Nat) (T : Nat → Bool) (s t : StQ) : Prop where
  met : ∀ a, T a = true → t.1.1 (npl M T a) = s.1.1 a
  wait : t.1.2.1 = s.1.2.1.map (turnM M T)
  fine : t.2 = s.2
section
variable {N N2 : Nat} {S T : Nat → Bool} {M : Nat → Nat} {R : List Nat}
theorem lead_rel (c : CollOK N S M) (h : Stay S M R T) (hN : 2 + ksum M T N ≤ N2) {s t : StQ} (r : RelQ M T s t) {x : Nat} (hx : Wd S M R x) :
    RelQ M T (leadQ N S M s x) (leadQ N2 (newS N M T) (newM N M T) t (turnM M T x)) := by
  rcases turn_in c h hx with ⟨rfl, h1⟩ | ⟨h0, h1⟩ | ⟨a, rfl, hT, h1⟩
  · rw [h1]; unfold leadQ; rw [if_pos (Or.inl rfl), if_pos (Or.inl rfl)]; exact r
  · rw [h1]; unfold leadQ; rw [if_pos (Or.inr h0), if_pos (Or.inr h0)]; exact r
  · obtain ⟨-, f2, f3, f4⟩ := npl_fit c h hT
    obtain ⟨l1, l2, l3⟩ := c.lt (h.sub hT)
    have e1 : a * 2 / 2 = a := by omega
    have e2 : npl M T a * 2 / 2 = npl M T a := by omega
    have hnew : newS N M T (npl M T a) = true := (newS_iff c h).2 ⟨a, hT, rfl⟩
    have hwait := r.wait
    have hmet := r.met
    have hfine := r.fine
    by_cases hm : s.1.1 a = true
    · have hm2 : t.1.1 (npl M T a) = true := by rw [hmet a hT]; exact hm
      have g1 : leadQ N S M s (a * 2) = s := by
        unfold leadQ
        rw [if_neg (by omega), e1, if_pos ⟨l2, h.sub hT⟩]
        unfold lead1
        rw [if_neg (by omega), e1, if_pos hm]
      have g2 : leadQ N2 (newS N M T) (newM N M T) t (turnM M T (a * 2)) = t := by
        rw [h1]
        unfold leadQ
        rw [if_neg (by omega), e2, if_pos ⟨f4, hnew⟩]
        unfold lead1
        rw [if_neg (by omega), e2, if_pos hm2]
      rw [g1, g2]; exact r
    · have hm2 : ¬ t.1.1 (npl M T a) = true := by rw [hmet a hT]; exact hm
      have g1 : leadQ N S M s (a * 2) = ((setS N s.1.1 (a : Int) true, s.1.2.1 ++ [a * 2], s.1.2.2 + 2 + cz M a), s.2) := by
        unfold leadQ
        rw [if_neg (by omega), e1, if_pos ⟨l2, h.sub hT⟩]
        unfold lead1
        rw [if_neg (by omega), e1, if_neg hm]
      have g2 : leadQ N2 (newS N M T) (newM N M T) t (turnM M T (a * 2)) = ((setS N2 t.1.1 (npl M T a : Int) true, t.1.2.1 ++ [npl M T a * 2], t.1.2.2 + 2 + cz (newM N M T) (npl M T a)), t.2) := by
        rw [h1]
        unfold leadQ
        rw [if_neg (by omega), e2, if_pos ⟨f4, hnew⟩]
        unfold lead1
        rw [if_neg (by omega), e2, if_neg hm2]
      rw [g1, g2]
      refine ⟨fun b hb => ?_, ?_, hfine⟩
      · apply Bool.eq_iff_iff.2
        show setS N2 t.1.1 (npl M T a : Int) true (npl M T b) = true ↔ setS N s.1.1 (a : Int) true b = true
        rw [setT N2 _ _ (by omega) _, setT N _ _ l1 _]
        constructor
        · rintro (hh | hh)
          · exact Or.inl (ksum_inj (M := M) hb hT (by unfold npl at hh; omega))
          · exact Or.inr (by rw [hmet b hb] at hh; exact hh)
        · rintro (hh | hh)
          · exact Or.inl (by rw [hh])
          · exact Or.inr (by rw [hmet b hb]; exact hh)
      · show t.1.2.1 ++ [npl M T a * 2] = (s.1.2.1 ++ [a * 2]).map (turnM M T)
        rw [List.map_append, hwait, List.map_singleton, h1]
theorem allN_rel (c : CollOK N S M) (h : Stay S M R T) (hN : 2 + ksum M T N ≤ N2) {s t : StQ} (r : RelQ M T s t) {a : Nat} (ha : T a = true) (i : Nat) (hi : i = 0 ∨ (hK (M (a + 1)) ≠ 2 ∧ i ≤ (hS (M (a + 1))).toNat)) :
    RelQ M T (allNQ N S M s a i) (allNQ N2 (newS N M T) (newM N M T) t (npl M T a) i) := by
  have hW := ((h.iff a).1 ha).1
  have hSa := h.sub ha
  obtain ⟨-, -, u, -, -, h3⟩ := c.obj a hSa
  have hz := cz3 u (c.small _) h3
  induction i with
  | zero =>
    show RelQ M T (leadQ N S M s (M a)) (leadQ N2 _ _ t (newM N M T (npl M T a)))
    rw [new_cls c h ha]
    exact lead_rel c h hN r (Wd.step hW hSa List.mem_cons_self)
  | succ i ih =>
    obtain ⟨hk, hi3⟩ : hK (M (a + 1)) ≠ 2 ∧ i + 1 ≤ (hS (M (a + 1))).toNat := by
      rcases hi with hi | hi
      · omega
      · exact hi
    rw [if_neg hk] at hz
    show RelQ M T (leadQ N S M (allNQ N S M s a i) (M (a + 2 + i))) (leadQ N2 _ _ (allNQ N2 (newS N M T) (newM N M T) t (npl M T a) i) (newM N M T (npl M T a + 2 + i)))
    have hw := new_word c h ha (i := i) (by omega)
    rw [if_neg hk] at hw
    rw [hw]
    refine lead_rel c h hN (ih (Or.inr ⟨hk, by omega⟩)) (Wd.step hW hSa ?_)
    unfold wordsA
    rw [if_neg hk]
    exact List.mem_cons_of_mem _ (List.mem_map.2 ⟨i, List.mem_range.2 (by omega), rfl⟩)
theorem all_rel (c : CollOK N S M) (h : Stay S M R T) (hN : 2 + ksum M T N ≤ N2) {s t : StQ} (r : RelQ M T s t) {a : Nat} (ha : T a = true) :
    RelQ M T (allQ N S M s a) (allQ N2 (newS N M T) (newM N M T) t (npl M T a)) := by
  have e := new_head c h ha
  unfold allQ
  rw [e]
  by_cases hk : hK (M (a + 1)) = 2
  · rw [if_pos hk]; exact allN_rel c h hN r ha 0 (Or.inl rfl)
  · rw [if_neg hk]; exact allN_rel c h hN r ha _ (Or.inr ⟨hk, Nat.le_refl _⟩)
theorem rel_none : RelQ M T (((fun _ => false), [], 0), false) (((fun _ => false), [], 0), false) := ⟨fun _ _ => rfl, rfl, rfl⟩
theorem getD_turn (l : List Nat) (i : Nat) : (l.map (turnM M T)).getD i 1 = turnM M T (l.getD i 1) := by
  rw [List.getD_eq_getElem?_getD, List.getD_eq_getElem?_getD, List.getElem?_map]
  cases l[i]? with
  | none => exact (turn_odd M T rfl).symm
  | some x => rfl
theorem roots_rel (c : CollOK N S M) (h : Stay S M R T) (hN : 2 + ksum M T N ≤ N2) (i : Nat) (hi : i ≤ R.length) :
    RelQ M T (rootsQ N S M R i) (rootsQ N2 (newS N M T) (newM N M T) (R.map (turnM M T)) i) := by
  induction i with
  | zero => exact rel_none
  | succ i ih =>
    show RelQ M T (leadQ N S M _ (R.getD i 1)) (leadQ N2 _ _ _ ((R.map (turnM M T)).getD i 1))
    rw [getD_turn]
    refine lead_rel c h hN (ih (by omega)) (Wd.root ?_)
    rw [List.getD_eq_getElem?_getD, List.getElem?_eq_getElem (by omega)]
    exact List.getElem_mem (by omega)
/-- what waits is led to: an object that stays -/
theorem wait_stay (hG : GoodH N S M) (h : Stay S M R T) (i : Nat) {x : Nat} (hx : x ∈ (ordQ N S M R i).1.2.1) : ∃ a, x = a * 2 ∧ T a = true := by
  have inv := (ord_inv (R := R) hG i).inv
  obtain ⟨a, rfl, hm⟩ := inv.wait x hx
  exact ⟨a, rfl, (h.iff a).2 (inv.met a hm)⟩
theorem ord_rel (hG : GoodH N S M) (c : CollOK N S M) (h : Stay S M R T) (hN : 2 + ksum M T N ≤ N2) (i : Nat) :
    RelQ M T (ordQ N S M R i) (ordQ N2 (newS N M T) (newM N M T) (R.map (turnM M T)) i) := by
  induction i with
  | zero =>
    show RelQ M T (rootsQ N S M R R.length) (rootsQ N2 _ _ (R.map (turnM M T)) (R.map (turnM M T)).length)
    rw [List.length_map]
    exact roots_rel c h hN _ (Nat.le_refl _)
  | succ i ih =>
    have hl : (ordQ N2 (newS N M T) (newM N M T) (R.map (turnM M T)) i).1.2.1.length = (ordQ N S M R i).1.2.1.length := by rw [ih.wait, List.length_map]
    unfold ordQ
    rw [hl]
    by_cases hi : i < (ordQ N S M R i).1.2.1.length
    · rw [if_pos hi, if_pos hi]
      obtain ⟨a, ha, hT⟩ := wait_stay hG h i (List.getElem_mem hi)
      have hg := List.getElem?_eq_getElem hi
      rw [ha] at hg
      have e1 : (ordQ N S M R i).1.2.1.getD i 0 = a * 2 := by rw [List.getD_eq_getElem?_getD, hg]; rfl
      have e2 : (ordQ N2 (newS N M T) (newM N M T) (R.map (turnM M T)) i).1.2.1.getD i 0 = npl M T a * 2 := by
        rw [ih.wait, List.getD_eq_getElem?_getD, List.getElem?_map, hg]
        show turnM M T (a * 2) = _
        exact turn_obj (by have := (c.lt (h.sub hT)).2.2; omega) (c.lt (h.sub hT)).2.1 hT
      rw [e1, e2, show a * 2 / 2 = a by omega, show npl M T a * 2 / 2 = npl M T a by omega]
      exact all_rel c h hN ih hT
    · rw [if_neg hi, if_neg hi]; exact ih
end
theorem ordQ_stop {N : Nat} {S : Nat → Bool} {M : Nat → Nat} {R : List Nat} {m : Nat} (h : (ordQ N S M R m).1.2.1.length = m) (d : Nat) : ordQ N S M R (m + d) = ordQ N S M R m := by
  induction d with
  | zero => rfl
  | succ d ih =>
    rw [show m + (d + 1) = (m + d) + 1 by omega]
    show (if m + d < (ordQ N S M R (m + d)).1.2.1.length then _ else ordQ N S M R (m + d)) = _
    rw [if_neg (by rw [ih]; omega), ih]
theorem ordQ_one {N : Nat} {S : Nat → Bool} {M : Nat → Nat} {R : List Nat} {m k : Nat} (h : (ordQ N S M R m).1.2.1.length = m) (h2 : (ordQ N S M R k).1.2.1.length = k) : k = m := by
  rcases Nat.le_total m k with hl | hl
  · obtain ⟨d, rfl⟩ : ∃ d, k = m + d := ⟨k - m, by omega⟩
    rw [ordQ_stop h] at h2; omega
  · obtain ⟨d, rfl⟩ : ∃ d, m = k + d := ⟨m - k, by omega⟩
    rw [ordQ_stop h2] at h; omega
/-- the order behind it is the order ahead, turned -/
theorem order_turned {N N2 : Nat} {S T : Nat → Bool} {M : Nat → Nat} {R : List Nat} (hG : GoodH N S M) (c : CollOK N S M) (h : Stay S M R T) (hN : 2 + ksum M T N ≤ N2) {l l' : List Nat} {m m' : Nat} (h1 : l = (ordQ N S M R m).1.2.1) (h2 : l.length = m)
    (h3 : l' = (ordQ N2 (newS N M T) (newM N M T) (R.map (turnM M T)) m').1.2.1) (h4 : l'.length = m') : l' = l.map (turnM M T) ∧ ∀ x, x ∈ l → ∃ a, x = a * 2 ∧ T a = true := by
  have r := ord_rel hG c h hN m
  have hl : (ordQ N2 (newS N M T) (newM N M T) (R.map (turnM M T)) m).1.2.1.length = m := by rw [r.wait, List.length_map, ← h1, h2]
  have hmm : m' = m := ordQ_one hl (by rw [← h3]; exact h4)
  subst hmm
  exact ⟨by rw [h3, r.wait, ← h1], fun x hx => wait_stay hG h m' (by rw [← h1]; exact hx)⟩
end Go.Proofs.YtffbhocgjpdjpaaDoor
namespace Go.Proofs.YtffbhocgjpdjpaaDoor
open Go.RowKit
set_option linter.unusedVariables false
/-- words that lead on -/
def ptrB (x : Nat) : Bool := decide (x ≠ 0) && decide (x % 2 = 0)
def ptrL (l : List Nat) : List Nat := l.filter ptrB
theorem ptrL_snoc {l : List Nat} {i : Nat} (hi : i < l.length) : ptrL (l.take (i + 1)) = ptrL (l.take i) ++ if ptrB (l.getD i 0) = true then [l.getD i 0] else [] := by
  have e : l.getD i 0 = l[i] := by rw [List.getD_eq_getElem?_getD, List.getElem?_eq_getElem hi]; rfl
  rw [e, List.take_succ_eq_append_getElem hi]
  unfold ptrL
  rw [List.filter_append]
  congr 1
  cases h : ptrB l[i] <;> simp [h]
set_option maxRecDepth 100000 in
theorem rpointers_any (v : Value) (l : List Nat) (w : World) (hv : WordsAt w v l) (hl : l.length ≤ 1000) (hsm : ∀ x, x ∈ l → x < 18446744073709551616) :
    Calls Tryd.prog 62 #[v] w fun e w' => ∃ v', e = .returned v' ∧ w'.ownsRow w.heap.size 48 1 v' (ptrL l).length (wordVals (ptrL l)) ∧ Below w.heap.size w w' := by
  obtain ⟨i1, hi1, hy0, hy1, hy2⟩ := info_parts wordInfo
  obtain ⟨a, cap, rfl, h1, h2, h3⟩ := hv.at
  unfold maxLen at h2
  have H3 := Lib.hid h3; have SM := Lib.hid hsm
  have PS := Lib.hid (fun i (hi : i < l.length) => ptrL_snoc hi)
  have PL := Lib.hid (show ∀ i, (ptrL (l.take i)).length ≤ 1000 from fun i => by
    unfold ptrL
    have h4 := List.length_filter_le ptrB (l.take i)
    have h5 := List.length_take_le i l
    have h6 : (l.take i).length ≤ l.length := List.length_take_le' i l
    omega)
  clear h3 hsm hv
  go_enter Tryd.func62, Tryd.ntmps62
  go_wp2_with fail
  go_loopg [3, 4] l.length (fun gg s3 s4 wr => ∃ (i : Nat) (aa : Option Addr) (an ac : Nat), gg = l.length - i ∧ i ≤ l.length ∧ s4 = .int .i64 (i : Int) ∧ s3 = .slice aa an ac ∧ wr.ownsRow w.heap.size 48 1 (.slice aa an ac) (ptrL (l.take i)).length (wordVals (ptrL (l.take i))) ∧ Below w.heap.size w wr)
  case atStart => exact ⟨0, none, 0, 0, rfl, by omega, rfl, rfl, World.ownsRow_nil _ _ _ _, Below.refl _ _⟩
  case round =>
    obtain ⟨i, aa, an, ac, hgi, hi, rfl, rfl, ho, hb⟩ := hrel
    have HGI := Lib.hid hgi; have HO := Lib.hid ho; have HB := Lib.hid hb
    clear hgi ho hb
    by_cases hlt : i < l.length
    · obtain ⟨b, o, rfl, hbl, hc⟩ := H3.out i hlt
      have hc := (HB.out.cell (p := ⟨b, o + i, none⟩) hbl).trans hc
      have PSi := PS.out i hlt
      have hx : l.getD i 0 < 18446744073709551616 := by
        rw [List.getD_eq_getElem?_getD, List.getElem?_eq_getElem hlt]; exact SM.out _ (List.getElem_mem _)
      obtain ⟨x, hxe⟩ : ∃ x, l.getD i 0 = x := ⟨_, rfl⟩
      rw [hxe] at hc PSi hx
      have IS := Lib.hid (fun W => risis_any (x : Int) (by omega) W)
      have hpl := PL.out i
      clear hxe
      by_cases h0 : x = 0
      · subst h0
        rw [show ptrB 0 = false by rfl, if_neg (by simp), List.append_nil] at PSi
        have PH := Lib.hid PSi
        clear PSi
        go_wp2_with fail
        all_goals try (exfalso; go_light; omega)
        go_roundg (l.length - (i + 1))
        case measure => rw [HGI.out]; omega
        case rel => exact ⟨i + 1, _, _, _, rfl, by omega, by go_num, rfl, by rw [PH.out]; exact HO.out, HB.out⟩
      · have hx0 : ¬ (x : Int) = 0 := by omega
        by_cases hodd : x % 2 = 1
        · rw [show ptrB x = false by unfold ptrB; simp; omega, if_neg (by simp), List.append_nil] at PSi
          have PH := Lib.hid PSi
          rw [show decide ((x : Int) % 2 = 1) = true by simp; omega] at IS
          clear PSi
          go_wp2_with (go_at_call 93; refine (IS.out _).mono ?_; rintro e w' ⟨rfl, rfl⟩)
          all_goals try (exfalso; go_light; omega)
          go_roundg (l.length - (i + 1))
          case measure => rw [HGI.out]; omega
          case rel => exact ⟨i + 1, _, _, _, rfl, by omega, by go_num, rfl, by rw [PH.out]; exact HO.out, HB.out⟩
        · rw [show ptrB x = true by unfold ptrB; simp; omega, if_pos rfl] at PSi
          have PH := Lib.hid PSi
          rw [show decide ((x : Int) % 2 = 1) = false by simp; omega] at IS
          clear PSi
          go_wp2_with (first | (go_at_call 93; refine (IS.out _).mono ?_; rintro e w' ⟨rfl, rfl⟩) | (at_builtin; refine wpList_append_own _ rfl _ _ 23 rfl w.heap.size 48 i1 (.int .u64 0) 1 8 Tryd.underlying23 hi1 hy0 hy1 hy2 rfl (by decide) _ _ _ rfl (HO.out.alloc _) ⟨wr.heap.size, 0, none⟩ 1 1 [.int .u64 (x : Int)] rfl rfl ?c1 ?c2 ?c3 ?c4 ?c5 ?_))
          case c1 =>
            intro j u hj
            match j, hj with
            | 0, hj => simp at hj; subst hj; simp [Addr.add]
          case c2 => intro u hu; simp at hu; subst hu; rfl
          case c3 => unfold maxLen; omega
          case c4 => omega
          case c5 => have := HB.out.size; simp; omega
          intro va w3 hown hgrow _
          obtain ⟨ga, ca, rfl, hga⟩ := owns_shape hown (by omega)
          have HO3 := Lib.hid (show w3.ownsRow w.heap.size 48 1 (.slice (some ⟨ga, 0, none⟩) ((ptrL (l.take i)).length + 1) ca) (ptrL (l.take (i + 1))).length (wordVals (ptrL (l.take (i + 1)))) by
            rw [PH.out, List.length_append, show wordVals (ptrL (l.take i) ++ [x]) = wordVals (ptrL (l.take i)) ++ [.int .u64 (x : Int)] by simp [wordVals]]
            exact hown)
          have HB3 := Lib.hid ((HB.out.alloc HB.out.size _).grown hgrow (by have := HB.out.size; simp; omega) (fun q hq => (HO.out.lt q hq).1))
          clear hown hgrow
          go_wp2_with fail
          go_roundg (l.length - (i + 1))
          case measure => rw [HGI.out]; omega
          case rel => exact ⟨i + 1, _, _, _, rfl, by omega, by go_num, rfl, HO3.out, HB3.out⟩
    · obtain rfl : i = l.length := by omega
      have ho := HO.out
      rw [List.take_length] at ho
      have HO2 := Lib.hid ho
      clear ho
      go_wp2_with fail
      go_ret
      exact ⟨_, rfl, HO2.out, HB.out⟩
set_option maxRecDepth 100000 in
theorem rleads_any (E k : Nat) (lv : Value) (os : List RO) (o : RO) (w : World) (h : RObjs E w lv os) (ho : os[k]? = some o) (hcl : o.cls < 18446744073709551616) (hwl : o.words.length ≤ 7) (hws : ∀ x, x ∈ o.words → x < 18446744073709551616) :
    Calls Tryd.prog 64 #[.agg #[.int .i64 200, lv, .int .u32 0], .int .i64 (k : Int)] w fun e w' => ∃ v', e = .returned v' ∧ w'.ownsRow w.heap.size 48 1 v' (ptrL (o.cls :: o.words)).length (wordVals (ptrL (o.cls :: o.words))) ∧ Below w.heap.size w w' := by
  obtain ⟨i1, hi1, hy0, hy1, hy2⟩ := info_parts wordInfo
  obtain ⟨la, lc, rfl, l1, l2, l3⟩ := h.get
  have hkl : k < os.length := (List.getElem?_eq_some_iff.1 ho).1
  obtain ⟨b, q, wv, bv, rfl, hbl, c0, c1, c2, c3, c4, c5, c6, c7, hwv, hbv, -⟩ := l3 k o ho
  unfold maxLen at l2
  have PT := Lib.hid (fun W u (hu : WordsAt W u (o.cls :: o.words)) => rpointers_any u (o.cls :: o.words) W hu (by simp; omega) (fun x hx => by
    rcases List.mem_cons.1 hx with rfl | hx
    · exact hcl
    · exact hws x hx))
  have WV := Lib.hid hwv
  have hwl' := hwl
  obtain ⟨wa, wc, rfl, -⟩ := id hwv
  obtain ⟨ba, bn, rfl, -⟩ := id hbv
  clear l3 ho hws hwv hbv h hwl
  obtain ⟨atv, hatv⟩ : ∃ z, o.at_ = z := ⟨_, rfl⟩
  obtain ⟨cls, hcls⟩ : ∃ z, o.cls = z := ⟨_, rfl⟩
  obtain ⟨kv, hkv⟩ : ∃ z, o.kind = z := ⟨_, rfl⟩
  obtain ⟨ws, hwse⟩ : ∃ z, o.words = z := ⟨_, rfl⟩
  obtain ⟨bs, hbse⟩ : ∃ z, o.bytes = z := ⟨_, rfl⟩
  rw [hatv] at c0
  rw [hcls] at c1 hcl PT ⊢
  rw [hkv] at c2
  rw [hwse] at c6 hwl' PT WV ⊢
  rw [hbse] at c7
  clear hatv hcls hkv hwse hbse
  go_enter Tryd.func64, Tryd.ntmps64
  go_upto_region 1 with fail
  obtain ⟨w1, hw1⟩ : ∃ w1, w1 = w.alloc (.cells #[.int .i64 200, .slice (some ⟨b, q, none⟩) os.length lc, .int .u32 0] 30) := ⟨_, rfl⟩
  rw [← hw1]
  have hh1 : w1.heap[w.heap.size]? = some (.cells #[.int .i64 200, .slice (some ⟨b, q, none⟩) os.length lc, .int .u32 0] 30 (0, 0)) := by rw [hw1]; exact heap_alloc_new w _
  have hb1 : Below w.heap.size w w1 := by rw [hw1]; exact (Below.refl _ w).alloc (Nat.le_refl _) _
  have y1 := cellO hh1 1
  simp at y1
  have d0 := (hb1.cell (p := ⟨b, q + k * 8, none⟩) hbl).trans c0
  have d1 := (hb1.cell (p := ⟨b, q + k * 8 + 1, none⟩) hbl).trans c1
  have d2 := (hb1.cell (p := ⟨b, q + k * 8 + 2, none⟩) hbl).trans c2
  have d3 := (hb1.cell (p := ⟨b, q + k * 8 + 3, none⟩) hbl).trans c3
  have d4 := (hb1.cell (p := ⟨b, q + k * 8 + 4, none⟩) hbl).trans c4
  have d5 := (hb1.cell (p := ⟨b, q + k * 8 + 5, none⟩) hbl).trans c5
  have d6 := (hb1.cell (p := ⟨b, q + k * 8 + 6, none⟩) hbl).trans c6
  have d7 := (hb1.cell (p := ⟨b, q + k * 8 + 7, none⟩) hbl).trans c7
  have m1 : w.heap.size < w1.heap.size := (Array.getElem?_eq_some_iff.1 hh1).1
  have WV1 := Lib.hid (WV.out.later hb1)
  have HB1 := Lib.hid hb1
  clear hw1 hh1 hb1 c0 c1 c2 c3 c4 c5 c6 c7
  go_upto_region 2 with fail
  obtain ⟨w2, hw2⟩ : ∃ w2, w2 = w1.alloc (.cells #[.int .i64 (atv : Int), .int .u64 (cls : Int), .int .i64 kv, .int .i64 3, .int .u32 0, .bool false, .slice wa ws.length wc, .slice ba bs.length bn] 66) := ⟨_, rfl⟩
  rw [← hw2]
  have hh2 : w2.heap[w1.heap.size]? = some (.cells #[.int .i64 (atv : Int), .int .u64 (cls : Int), .int .i64 kv, .int .i64 3, .int .u32 0, .bool false, .slice wa ws.length wc, .slice ba bs.length bn] 66 (0, 0)) := by rw [hw2]; exact heap_alloc_new w1 _
  have hb2 : Below w1.heap.size w1 w2 := by rw [hw2]; exact (Below.refl _ w1).alloc (Nat.le_refl _) _
  have e1 := cellO hh2 1
  have e6 := cellO hh2 6
  simp at e1 e6
  have m2 : w1.heap.size < w2.heap.size := (Array.getElem?_eq_some_iff.1 hh2).1
  have HB2 := Lib.hid (HB1.out.trans (hb2.mono HB1.out.size))
  have HO := Lib.hid (World.ownsRow_lit (base := w.heap.size) (e := 48) (size := 1) w2 #[.int .u64 (cls : Int)] 1 (by omega) (by decide) rfl)
  have HB3 := Lib.hid ((Below.refl w2.heap.size w2).alloc (Nat.le_refl _) (.cells #[.int .u64 (cls : Int)] 48))
  have WV3 := Lib.hid ((WV1.out.later hb2).later HB3.out)
  clear hw2 hh2 hb2 y1 d0 d1 d2 d3 d4 d5 d6 d7
  go_wp2_with (at_builtin; refine wpList_append_words rfl _ _ 23 rfl w.heap.size 48 i1 Tryd.underlying23 hi1 hy0 hy1 hy2 _ _ _ rfl HO.out _ ws rfl WV3.out ?c1 ?c2 ?_)
  case c1 => omega
  case c2 => first | omega | (simp; omega)
  intro v' w4 hown hgrow
  have hl1 : 0 < 1 + ws.length := by omega
  obtain ⟨g4, c4, rfl, hg4⟩ := owns_shape hown hl1
  have hwv : w4.ownsRow w.heap.size 48 1 (.slice (some ⟨g4, 0, none⟩) (1 + ws.length) c4) (1 + ws.length) (wordVals (cls :: ws)) := hown
  have PT4 := Lib.hid (PT.out w4 _ (words_of_owns hwv))
  have HB4 := Lib.hid ((HB2.out.alloc HB2.out.size _).grown hgrow (by have := HB2.out.size; simp; omega) (fun q hq => (HO.out.lt q hq).1))
  clear hown hgrow hwv
  go_wp2_with fail
  refine PT4.out.mono ?_
  rintro e w5 ⟨v5, rfl, ho5, hg5⟩
  obtain ⟨a5, n5, c5, rfl⟩ := owns_slice ho5
  have HO5 := Lib.hid (owns_mono ho5 HB4.out.size)
  have HB5 := Lib.hid (HB4.out.trans (hg5.mono HB4.out.size))
  clear ho5 hg5
  go_wp2_with fail
  go_ret
  exact ⟨_, rfl, HO5.out, HB5.out⟩
end Go.Proofs.YtffbhocgjpdjpaaDoor
namespace Go.Proofs.YtffbhocgjpdjpaaDoor
open Go.RowKit
set_option linter.unusedVariables false
set_option maxRecDepth 100000 in
theorem rfind_no (C : Nat) (cells : Int) (lv : Value) (os : List RO) (x : Nat) (w : World) (h : RObjs C w lv os) (hb : ∀ o, o ∈ os → o.at_ ≤ 1000000) (hno : ∀ (i : Nat) (o : RO), os[i]? = some o → o.at_ * 2 ≠ x) :
    Calls Tryd.prog 63 #[.agg #[.int .i64 cells, lv, .int .u32 0], .int .u64 (x : Int)] w fun e w' => e = .returned (.int .i64 (-1)) ∧ Below w.heap.size w w' := by
  obtain ⟨a, cap, rfl, h1, h2, h3⟩ := h.get
  unfold maxLen at h2
  have H3 := Lib.hid (show ∀ W, Below w.heap.size w W → ∀ i o, os[i]? = some o → ∃ b q, a = some ⟨b, q, none⟩ ∧ W.cell? ⟨b, q + i * 8, none⟩ = some (.int .i64 (o.at_ : Int)) from fun W hW i o ho => by
    obtain ⟨b, q, wv, bv, ha, hbl, c0, -⟩ := h3 i o ho
    exact ⟨b, q, ha, (hW.cell (p := ⟨b, q + i * 8, none⟩) hbl).trans c0⟩)
  have HLT := Lib.hid hno
  have HB := Lib.hid hb
  clear h3 h hno hb
  go_enter Tryd.func63, Tryd.ntmps63
  go_wp2_with fail
  obtain ⟨w1, hw1⟩ : ∃ w1, w1 = w.alloc (.cells #[.int .i64 cells, .slice a os.length cap, .int .u32 0] 30) := ⟨_, rfl⟩
  have hx := heap_alloc_new w (.cells #[.int .i64 cells, .slice a os.length cap, .int .u32 0] 30)
  rw [← hw1] at hx ⊢
  have HB1 := Lib.hid (show Below w.heap.size w w1 by rw [hw1]; exact (Below.refl _ w).alloc (Nat.le_refl _) _)
  have HC := Lib.hid hx
  have hz1 : w.heap.size < w1.heap.size := (Array.getElem?_eq_some_iff.1 hx).1
  clear hw1 hx
  go_loopg [5] os.length (fun gg s5 wr => ∃ i : Nat, gg = os.length - i ∧ i ≤ os.length ∧ s5 = .int .i64 (i : Int) ∧ Below w1.heap.size w1 wr)
  case atStart => exact ⟨0, rfl, by omega, rfl, Below.refl _ _⟩
  case round =>
    obtain ⟨i, hgi, hi, rfl, hg⟩ := hrel
    have HGI := Lib.hid hgi; have HG := Lib.hid hg
    have hx := (hg.block w.heap.size hz1).trans HC.out
    have z1 := cellO hx 1
    simp at z1
    have hbw := HB1.out.trans (hg.mono HB1.out.size)
    clear hgi hg hx
    by_cases hil : i < os.length
    · obtain ⟨b, q, rfl, hc⟩ := H3.out wr hbw i os[i] (List.getElem?_eq_getElem hil)
      have ha := HB.out os[i] (List.getElem_mem hil)
      have hne := HLT.out i os[i] (List.getElem?_eq_getElem hil)
      have HBW := Lib.hid hbw
      have he : ¬ (os[i].at_ : Int) * 2 = (x : Int) := by omega
      clear hbw hne
      generalize os[i] = o at *
      obtain ⟨at_, cls, kind, words, bytes⟩ := o
      dsimp only at *
      go_wp2_with fail
      all_goals (try (exfalso; go_light; omega))
      go_roundg (os.length - (i + 1))
      case measure => rw [HGI.out]; omega
      case rel => exact ⟨i + 1, rfl, by omega, by go_num, HG.out⟩
    · have HBW := Lib.hid hbw
      clear hbw
      go_wp2_with fail
      all_goals (try (exfalso; go_light; omega))
      go_ret
      exact ⟨rfl, HBW.out⟩
/-- where an object of the list stands -/
def atR (os : List RO) (k : Nat) : Nat := (os.getD k ⟨0, 0, 0, [], []⟩).at_
def idxVals (ks : List Nat) : List Value := ks.map fun (k : Nat) => Value.int .i64 (k : Int)
theorem atR_eq {os : List RO} {k : Nat} {o : RO} (h : os[k]? = some o) : atR os k = o.at_ := by unfold atR; rw [List.getD_eq_getElem?_getD, h]; rfl
/-- a list of places in the document's list is the walk's -/
structure RState (os : List RO) (s : StQ) (ks : List Nat) : Prop where
  fine : s.2 = false
  wait : s.1.2.1 = ks.map fun k => atR os k * 2
  lt : ∀ k, k ∈ ks → k < os.length
section
variable {N : Nat} {S : Nat → Bool} {M : Nat → Nat} {free : Nat} {os : List RO}
theorem Lays.atR_inj (h : Lays free S M os) {i j : Nat} (hi : i < os.length) (hj : j < os.length) (he : atR os i = atR os j) : i = j := by
  have g1 := List.getElem?_eq_getElem hi
  have g2 := List.getElem?_eq_getElem hj
  rw [atR_eq g1, atR_eq g2] at he
  rcases Nat.lt_trichotomy i j with hl | hl | hl
  · have := h.ord i j _ _ hl g1 g2; omega
  · exact hl
  · have := h.ord j i _ _ hl g2 g1; omega
theorem Lays.isAtR (h : Lays free S M os) {k : Nat} (hk : k < os.length) : IsAt os (atR os k * 2) k := by
  refine ⟨⟨_, List.getElem?_eq_getElem hk, by rw [atR_eq (List.getElem?_eq_getElem hk)]⟩, fun j o hj ho he => ?_⟩
  have := h.atR_inj (List.getElem?_eq_some_iff.1 ho).1 hk (by rw [atR_eq ho]; omega)
  omega
theorem found_or {os : List RO} (x : Nat) : (∃ k, k < os.length ∧ x = atR os k * 2) ∨ ∀ (i : Nat) (o : RO), os[i]? = some o → o.at_ * 2 ≠ x := by
  by_cases h : ∃ k, k < os.length ∧ x = atR os k * 2
  · exact Or.inl h
  · refine Or.inr fun i o ho he => h ⟨i, (List.getElem?_eq_some_iff.1 ho).1, by rw [atR_eq ho]; exact he.symm⟩
theorem Lays.atR_good (h : Lays free S M os) (hf : free ≤ N) {k : Nat} (hk : k < os.length) : S (atR os k) = true ∧ 2 ≤ atR os k ∧ atR os k < N := by
  have g := List.getElem?_eq_getElem hk
  have hL := h.obj k _ g
  rw [atR_eq g]
  have := hL.fit
  exact ⟨hL.here, hL.two, by omega⟩
theorem lead_met (h : Lays free S M os) (hf : free ≤ N) (hN : N ≤ 16777216) {s : StQ} {k : Nat} (hk : k < os.length) (hm : s.1.1 (atR os k) = true) : leadQ N S M s (atR os k * 2) = s := by
  obtain ⟨g1, g2, g3⟩ := h.atR_good hf hk
  unfold leadQ
  rw [if_neg (by omega), show atR os k * 2 / 2 = atR os k by omega, if_pos ⟨by omega, g1⟩]
  unfold lead1
  rw [if_neg (by omega), show atR os k * 2 / 2 = atR os k by omega, if_pos hm]
theorem lead_push (h : Lays free S M os) (hf : free ≤ N) (hN : N ≤ 16777216) {s : StQ} {k : Nat} {ks : List Nat} (hk : k < os.length) (hm : s.1.1 (atR os k) = false) (r : RState os s ks) :
    RState os (leadQ N S M s (atR os k * 2)) (ks ++ [k]) ∧ ∀ j, j < os.length → (leadQ N S M s (atR os k * 2)).1.1 (atR os j) = if j = k then true else s.1.1 (atR os j) := by
  obtain ⟨g1, g2, g3⟩ := h.atR_good hf hk
  have e : leadQ N S M s (atR os k * 2) = ((setS N s.1.1 (atR os k : Int) true, s.1.2.1 ++ [atR os k * 2], s.1.2.2 + 2 + cz M (atR os k)), s.2) := by
    unfold leadQ
    rw [if_neg (by omega), show atR os k * 2 / 2 = atR os k by omega, if_pos ⟨by omega, g1⟩]
    unfold lead1
    rw [if_neg (by omega), show atR os k * 2 / 2 = atR os k by omega, if_neg (by rw [hm]; simp)]
  rw [e]
  refine ⟨⟨r.fine, ?_, fun j hj => ?_⟩, fun j hj => ?_⟩
  · show s.1.2.1 ++ [atR os k * 2] = _
    rw [r.wait, List.map_append]; rfl
  · rcases List.mem_append.1 hj with hj | hj
    · exact r.lt j hj
    · have : j = k := by simpa using hj
      omega
  · show setS N s.1.1 (atR os k : Int) true (atR os j) = _
    apply Bool.eq_iff_iff.2
    rw [setT N _ _ g3 _]
    by_cases hjk : j = k
    · subst hjk; simp
    · rw [if_neg hjk]
      constructor
      · rintro (hh | hh)
        · exact absurd (h.atR_inj hj hk hh) hjk
        · exact hh
      · exact fun hh => Or.inr hh
end
section
variable {N : Nat} {S : Nat → Bool} {M : Nat → Nat} {R : List Nat}
abbrev noneQ : StQ := (((fun _ => false), [], 0), false)
def foldQ (N : Nat) (S : Nat → Bool) (M : Nat → Nat) (s : StQ) (l : List Nat) : StQ := l.foldl (leadQ N S M) s
theorem foldQ_snoc (s : StQ) (l : List Nat) {i : Nat} (hi : i < l.length) : foldQ N S M s (l.take (i + 1)) = leadQ N S M (foldQ N S M s (l.take i)) (l.getD i 0) := by
  unfold foldQ
  rw [List.take_succ_eq_append_getElem hi, List.foldl_append, List.getD_eq_getElem?_getD, List.getElem?_eq_getElem hi]
  rfl
theorem foldQ_ptr (s : StQ) (l : List Nat) : foldQ N S M s (ptrL l) = foldQ N S M s l := by
  induction l generalizing s with
  | nil => rfl
  | cons x l ih =>
    unfold ptrL
    rw [List.filter_cons]
    by_cases hx : ptrB x = true
    · rw [if_pos hx]
      exact ih (leadQ N S M s x)
    · rw [if_neg hx]
      have hid : leadQ N S M s x = s := by
        unfold leadQ
        rw [if_pos]
        unfold ptrB at hx
        by_cases h0 : x = 0
        · exact Or.inl h0
        · refine Or.inr ?_
          simp at hx
          exact hx h0
      show foldQ N S M s (ptrL l) = foldQ N S M (leadQ N S M s x) l
      rw [hid]; exact ih s
theorem rootsQ_fold (i : Nat) (hi : i ≤ R.length) : rootsQ N S M R i = foldQ N S M noneQ (R.take i) := by
  induction i with
  | zero => rfl
  | succ i ih =>
    rw [foldQ_snoc _ _ (by omega), ← ih (by omega)]
    show leadQ N S M (rootsQ N S M R i) (R.getD i 1) = _
    rw [List.getD_eq_getElem?_getD, List.getD_eq_getElem?_getD, List.getElem?_eq_getElem (by omega)]
    rfl
theorem allNQ_fold (s : StQ) (a i : Nat) : allNQ N S M s a i = foldQ N S M s (M a :: (List.range i).map fun j => M (a + 2 + j)) := by
  induction i with
  | zero => rfl
  | succ i ih =>
    show leadQ N S M (allNQ N S M s a i) (M (a + 2 + i)) = _
    rw [ih]
    unfold foldQ
    rw [List.range_succ, List.map_append, List.foldl_cons, List.foldl_cons, List.foldl_append]
    rfl
theorem allQ_fold (s : StQ) (a : Nat) : allQ N S M s a = foldQ N S M s (wordsA M a) := by
  unfold allQ
  rw [allNQ_fold, wordsA_eq]
/-- the state ahead of a round, and the words that it goes through -/
def preQ (N : Nat) (S : Nat → Bool) (M : Nat → Nat) (R : List Nat) : Nat → StQ
  | 0 => noneQ
  | n + 1 => ordQ N S M R n
def listQ (N : Nat) (S : Nat → Bool) (M : Nat → Nat) (R : List Nat) : Nat → List Nat
  | 0 => R
  | n + 1 => if n < (ordQ N S M R n).1.2.1.length then wordsA M ((ordQ N S M R n).1.2.1.getD n 0 / 2) else []
theorem round_fold (n : Nat) : foldQ N S M (preQ N S M R n) (ptrL (listQ N S M R n)) = preQ N S M R (n + 1) := by
  rw [foldQ_ptr]
  cases n with
  | zero =>
    show foldQ N S M noneQ R = rootsQ N S M R R.length
    rw [rootsQ_fold R.length (Nat.le_refl _), List.take_length]
  | succ n =>
    show foldQ N S M (ordQ N S M R n) (if _ then _ else _) = (if n < (ordQ N S M R n).1.2.1.length then _ else ordQ N S M R n)
    by_cases h : n < (ordQ N S M R n).1.2.1.length
    · rw [if_pos h, if_pos h, allQ_fold]
    · rw [if_neg h, if_neg h]; rfl
theorem pre_mono (hG : GoodH N S M) (n : Nat) : (preQ N S M R n).1.2.1.length ≤ (preQ N S M R (n + 1)).1.2.1.length := by
  cases n with
  | zero => exact Nat.zero_le _
  | succ n => exact (ord_ext (R := R) hG n).2.1.length_le
theorem pre_bd (hG : GoodH N S M) (n : Nat) : (preQ N S M R n).1.2.1.length ≤ N := by
  cases n with
  | zero => exact Nat.zero_le _
  | succ n =>
    have h := (ord_inv (R := R) hG n).inv
    have h2 := cnt_le (ordQ N S M R n).1.1 N
    show (ordQ N S M R n).1.2.1.length ≤ N
    rw [h.len]; exact h2
end
theorem leads_words {free : Nat} {S : Nat → Bool} {M : Nat → Nat} {os : List RO} (h : Lays free S M os) {k : Nat} {o : RO} (ho : os[k]? = some o) : wordsA M o.at_ = o.cls :: o.words := by
  have hL := h.obj k o ho
  obtain ⟨-, u2, u3⟩ := hL.un
  unfold wordsA
  rw [hL.cls, u2, u3]
  by_cases hk : o.kind = 2
  · rw [if_pos hk, hL.raw hk]
  · rw [if_neg hk]
    obtain ⟨hl, hw⟩ := hL.words hk
    congr 1
    apply List.ext_getElem
    · rw [List.length_map, List.length_range, hl]; rfl
    · intro i h1 h2
      rw [List.getElem_map, List.getElem_range, hw i (by omega), List.getD_eq_getElem?_getD, List.getElem?_eq_getElem h2]
      rfl
theorem words_small {free : Nat} {S : Nat → Bool} {M : Nat → Nat} {os : List RO} (h : Lays free S M os) (hM : ∀ i, M i < 18446744073709551616) {k : Nat} {o : RO} (ho : os[k]? = some o) : o.words.length ≤ 3 ∧ ∀ x, x ∈ o.words → x < 18446744073709551616 := by
  have hL := h.obj k o ho
  by_cases hk : o.kind = 2
  · rw [hL.raw hk]; exact ⟨by simp, fun x hx => by cases hx⟩
  · obtain ⟨hl, hw⟩ := hL.words hk
    refine ⟨by omega, fun x hx => ?_⟩
    obtain ⟨i, hi, rfl⟩ := List.getElem_of_mem hx
    have := hw i (by omega)
    rw [List.getD_eq_getElem?_getD, List.getElem?_eq_getElem hi] at this
    have h2 := hM (o.at_ + 2 + i)
    rw [this] at h2
    exact h2
end Go.Proofs.YtffbhocgjpdjpaaDoor
namespace Go.Proofs.YtffbhocgjpdjpaaDoor
open Go.RowKit
set_option linter.unusedVariables false
theorem owns_len {w : World} {B e s n : Nat} {v : Value} {xs : List Value} (h : w.ownsRow B e s v n xs) : ∃ a c, v = .slice a n c := by
  rcases h.2 with ⟨hv, h0⟩ | ⟨g, cap, cur, hv, -⟩
  · exact ⟨none, 0, by rw [hv, h0]⟩
  · exact ⟨_, _, hv⟩
theorem list_bd {N : Nat} {S : Nat → Bool} {M : Nat → Nat} {R : List Nat} (hG : GoodH N S M) (hr : R.length ≤ 100) (n : Nat) : (ptrL (listQ N S M R n)).length ≤ N + 101 := by
  have h1 : (ptrL (listQ N S M R n)).length ≤ (listQ N S M R n).length := List.length_filter_le _ _
  have h2 : (listQ N S M R n).length ≤ N + 101 := by
    cases n with
    | zero => show R.length ≤ _; omega
    | succ n =>
      show (if n < (ordQ N S M R n).1.2.1.length then _ else []).length ≤ _
      by_cases hl : n < (ordQ N S M R n).1.2.1.length
      · rw [if_pos hl]
        obtain ⟨a, ha, hm⟩ := (ord_inv (R := R) hG n).inv.wait _ (List.getElem_mem hl)
        have hS := ((ord_inv (R := R) hG n).inv.met a hm).2
        rw [List.getD_eq_getElem?_getD, List.getElem?_eq_getElem hl, ha]
        show (wordsA M (a * 2 / 2)).length ≤ _
        rw [show a * 2 / 2 = a by omega]
        obtain ⟨-, g⟩ := hG a hS
        unfold wordsA
        by_cases hk : hK (M (a + 1)) = 2
        · rw [if_pos hk]; simp
        · rw [if_neg hk, List.length_cons, List.length_map, List.length_range]
          have := g hk
          omega
      · rw [if_neg hl]; simp
  omega
theorem boolInfoR : (Tryd.prog.info? 4).map (fun i => (i.zero, i.size, i.bytes)) = some (some (.bool false), 1, 1) := by kernel_rfl
set_option maxRecDepth 100000 in
set_option maxHeartbeats 1600000 in
theorem rorder_any (E N free : Nat) (S : Nat → Bool) (M : Nat → Nat) (os : List RO) (rs : List Nat) (lv v : Value) (w : World) (h : RObjs E w lv os) (hL : Lays free S M os) (hf : free ≤ N) (hN : N ≤ 100000) (hG : GoodH N S M) (hM : ∀ i, M i < 18446744073709551616) (hol : os.length ≤ 20)
    (hsm : ∀ o, o ∈ os → o.at_ ≤ 1000000) (hv : WordsAt w v rs) (hrl : rs.length ≤ 100) (hrs : ∀ x, x ∈ rs → x < 18446744073709551616) :
    Calls Tryd.prog 25 #[.agg #[.int .i64 200, lv, .int .u32 0], v] w fun e w' => (e = .returned (.tuple #[.slice none 0 0, .bool false]) ∨ ∃ (m : Nat) (ks : List Nat) (kv : Value), (ordQ N S M rs m).1.2.1.length = m ∧ RState os (ordQ N S M rs m) ks ∧ e = .returned (.tuple #[kv, .bool true]) ∧ w'.ownsRow w.heap.size 3 1 kv ks.length (idxVals ks)) ∧ Below w.heap.size w w' := by
  obtain ⟨i1, hi1, hy0, hy1, hy2⟩ := info_parts intInfo
  have FD := Lib.hid (fun W k (hW : Below w.heap.size w W) (hk : k < os.length) => rfind_any E 200 lv os (atR os k * 2) k W (h.later hW) hsm (hL.isAtR hk))
  have FN := Lib.hid (fun W x (hW : Below w.heap.size w W) (hno : ∀ (i : Nat) (o : RO), os[i]? = some o → o.at_ * 2 ≠ x) => rfind_no E 200 lv os x W (h.later hW) hsm hno)
  have LDS := Lib.hid (fun W k o (hW : Below w.heap.size w W) (ho : os[k]? = some o) => rleads_any E k lv os o W (h.later hW) ho (by have := (hL.obj k o ho).small; omega) (by have := (words_small hL hM ho).1; omega) (words_small hL hM ho).2)
  have PTS := Lib.hid (fun W (hW : Below w.heap.size w W) => rpointers_any v rs W (hv.later hW) (by omega) hrs)
  have PM := Lib.hid (fun n => pre_mono (R := rs) hG n)
  have PB := Lib.hid (fun n => pre_bd (R := rs) hG n)
  have LB := Lib.hid (fun n => list_bd (R := rs) hG hrl n)
  have LM := Lib.hid (fun s k (hk : k < os.length) hm => lead_met (N := N) (s := s) hL hf (by omega) hk hm)
  have LP := Lib.hid (fun s k ks (hk : k < os.length) hm r => lead_push (N := N) (s := s) (k := k) (ks := ks) hL hf (by omega) hk hm r)
  have LW := Lib.hid (fun k o (ho : os[k]? = some o) => leads_words hL ho)
  obtain ⟨la, lc, rfl, l1, l2, -⟩ := h.get
  obtain ⟨va, vc, rfl, -⟩ := id hv
  unfold maxLen at l2
  have hmk : ∀ W, (Instr.makeSlice 123 (.int .i64 (os.length : Int)) (.int .i64 (os.length : Int))).run Tryd.prog W = .ok (.slice (some ⟨W.heap.size, 0, none⟩) os.length os.length) (W.alloc (.cells (madeCells #[.bool false] os.length) 4)) :=
    fun W => run_make_row' (P := Tryd.prog) 123 4 (.bool false) 1 Tryd.underlying123 boolInfoR rfl .i64 .i64 os.length (by omega) (by omega) W
  clear h hL hG hM hsm hv hrs
  go_enter Tryd.func25, Tryd.ntmps25
  go_upto_region 1 with fail
  obtain ⟨w1, hw1⟩ : ∃ w1, w1 = w.alloc (.cells #[.int .i64 200, .slice la os.length lc, .int .u32 0] 30) := ⟨_, rfl⟩
  rw [← hw1]
  have hh1 : w1.heap[w.heap.size]? = some (.cells #[.int .i64 200, .slice la os.length lc, .int .u32 0] 30 (0, 0)) := by rw [hw1]; exact heap_alloc_new w _
  have hb1 : Below w.heap.size w w1 := by rw [hw1]; exact (Below.refl _ w).alloc (Nat.le_refl _) _
  have hz1 : w1.heap.size = w.heap.size + 1 := by rw [hw1]; simp
  have y1 := cellO hh1 1
  simp at y1
  have HH1 := Lib.hid hh1; have HB1 := Lib.hid hb1
  clear hw1 hh1 hb1
  go_upto_region 3 with fail
  obtain ⟨w2, hw2⟩ : ∃ w2, w2 = w1.alloc (.cells (madeCells #[.bool false] os.length) 4) := ⟨_, rfl⟩
  rw [← hw2]
  have hr2 : w2.rowIs (w.heap.size + 1) 4 os.length (fun k => .bool ((noneQ).1.1 (atR os k))) := by
    rw [hw2, ← hz1]; exact World.rowIs_made w1 (.bool false) os.length 4
  have hb2 : Below (w.heap.size + 1) w1 w2 := by rw [hw2]; exact (Below.refl _ w1).alloc (by omega) _
  have hz2 : w2.heap.size = w.heap.size + 2 := by rw [hw2]; simp; omega
  have HR2 := Lib.hid hr2; have B2 := Lib.hid hb2
  have P2 := Lib.hid (PTS.out w2 (HB1.out.trans (hb2.mono (by omega))))
  clear hw2 hr2 hb2 y1 hmk PTS
  go_wp2_with fail
  refine P2.out.mono ?_
  rintro e w3 ⟨pv, rfl, hpo, hg3⟩
  rw [hz2] at hpo hg3
  obtain ⟨pa, pc, rfl⟩ := owns_len hpo
  have HP3 := Lib.hid hpo
  have B3 := Lib.hid (B2.out.trans (hg3.mono (by omega)))
  have HR3 := Lib.hid (HR2.out.of_block (hg3.block (w.heap.size + 1) (by omega)))
  clear hpo hg3 P2
  go_wp2_with fail
  have HP0 := Lib.hid (show w3.ownsRow (w.heap.size + 2) 48 1 (.slice pa (ptrL (listQ N S M rs 0)).length pc) (ptrL (listQ N S M rs 0)).length (wordVals (ptrL (listQ N S M rs 0))) from HP3.out)
  go_loopg [6, 8, 9] (N + 2) (fun gg s6 s8 s9 wr => ∃ (n : Nat) (aa : Option Addr) (ac : Nat) (pa : Option Addr) (pc : Nat) (ks : List Nat), gg = N + 2 - n ∧ s9 = .int .i64 (n : Int) ∧ s6 = .slice aa ks.length ac ∧ s8 = .slice pa (ptrL (listQ N S M rs n)).length pc ∧
    wr.ownsRow (w.heap.size + 2) 3 1 (.slice aa ks.length ac) ks.length (idxVals ks) ∧ wr.ownsRow (w.heap.size + 2) 48 1 (.slice pa (ptrL (listQ N S M rs n)).length pc) (ptrL (listQ N S M rs n)).length (wordVals (ptrL (listQ N S M rs n))) ∧ RState os (preQ N S M rs n) ks ∧
    wr.rowIs (w.heap.size + 1) 4 os.length (fun k => .bool ((preQ N S M rs n).1.1 (atR os k))) ∧ n ≤ (preQ N S M rs n).1.2.1.length + 1 ∧ Below (w.heap.size + 1) w1 wr)
  case atStart => exact ⟨0, none, 0, pa, pc, [], rfl, rfl, rfl, rfl, World.ownsRow_nil _ _ _ _, HP0.out, ⟨rfl, rfl, fun k hk => (by cases hk)⟩, HR3.out, by omega, B3.out⟩
  case round =>
    obtain ⟨n, aa, ac, pa, pc, ks, hgn, rfl, rfl, rfl, hoo, hop, hst, hrow, hnl, hbr⟩ := hrel
    obtain ⟨wo, hwo⟩ : ∃ z, z = wr := ⟨_, rfl⟩
    subst hwo
    have HGN := Lib.hid hgn
    have HOO := Lib.hid hoo; have HOP := Lib.hid hop; have HST := Lib.hid hst; have HROW := Lib.hid hrow; have HBR := Lib.hid hbr
    have hkl : (preQ N S M rs n).1.2.1.length = ks.length := by rw [hst.wait, List.length_map]
    have hpb := PB.out n
    rw [hkl] at hnl hpb
    have HKL := Lib.hid hkl
    clear hgn hoo hop hst hrow hbr hkl HP3 HP0 HR3 HR2 B2 B3
    by_cases hle : n ≤ ks.length
    · obtain ⟨P, hP⟩ : ∃ P, ptrL (listQ N S M rs n) = P := ⟨_, rfl⟩
      have FO := Lib.hid (show foldQ N S M (preQ N S M rs n) P = preQ N S M rs (n + 1) by rw [← hP]; exact round_fold n)
      have FS := Lib.hid (fun i (hi : i < P.length) => foldQ_snoc (N := N) (S := S) (M := M) (preQ N S M rs n) P hi)
      have hPl := LB.out n
      rw [hP] at hPl
      have HOP' := HOP.out
      rw [hP] at HOP' ⊢
      have HOPP := Lib.hid HOP'
      clear hP HOP HOP'
      go_wp2_with fail
      all_goals try (exfalso; go_light; omega)
      go_loopg [6, 10] P.length (fun gg s6 s10 wx => ∃ (j : Nat) (aa : Option Addr) (ac : Nat) (ks : List Nat), gg = P.length - j ∧ j ≤ P.length ∧ s10 = .int .i64 (j : Int) ∧ s6 = .slice aa ks.length ac ∧
        wx.ownsRow (w.heap.size + 2) 3 1 (.slice aa ks.length ac) ks.length (idxVals ks) ∧ wx.ownsRow (w.heap.size + 2) 48 1 (.slice pa P.length pc) P.length (wordVals P) ∧ RState os (foldQ N S M (preQ N S M rs n) (P.take j)) ks ∧
        wx.rowIs (w.heap.size + 1) 4 os.length (fun k => .bool ((foldQ N S M (preQ N S M rs n) (P.take j)).1.1 (atR os k))) ∧ Below (w.heap.size + 1) w1 wx ∧ ks.length ≤ N + j)
      case atStart => exact ⟨0, aa, ac, ks, rfl, by omega, rfl, rfl, HOO.out, HOPP.out, HST.out, HROW.out, HBR.out, by omega⟩
      case round =>
        obtain ⟨j, aa, ac, ks, hgj, hj, rfl, rfl, hoo, hop, hst, hrow, hbx, hkb⟩ := hrel
        obtain ⟨wi, hwi⟩ : ∃ z, z = wr := ⟨_, rfl⟩
        subst hwi
        have HGJ := Lib.hid hgj; have HO := Lib.hid hoo; have HP := Lib.hid hop; have HS := Lib.hid hst; have HR := Lib.hid hrow; have HB := Lib.hid hbx
        have hzi : w1.heap.size ≤ wi.heap.size := hbx.size
        have hxx := (hbx.block w.heap.size (by omega)).trans HH1.out
        have y1 := cellO hxx 1
        have y0 := cellO hxx 0
        have y2 := cellO hxx 2
        simp at y0 y1 y2
        have BW := Lib.hid (HB1.out.trans (hbx.mono (by omega)))
        have hmw : w.heap.size < wi.heap.size := by omega
        clear hgj hoo hst hrow hbx hxx HOO HOPP HROW HBR
        by_cases hlt : j < P.length
        · obtain ⟨pg, pcap, hpe, hpg⟩ := owns_shape hop (by omega)
          simp only [Value.slice.injEq] at hpe
          obtain ⟨rfl, -, rfl⟩ := hpe
          have hcx : wi.cell? ⟨pg, j, none⟩ = some (.int .u64 (P.getD j 0 : Int)) := by
            rw [hop.cellAt j (by omega), List.getD_eq_getElem?_getD]
            simp [wordVals, List.getElem?_map, List.getElem?_eq_getElem hlt]
          have FSj := Lib.hid (FS.out j hlt)
          obtain ⟨x, hx⟩ : ∃ x, P.getD j 0 = x := ⟨_, rfl⟩
          rw [hx] at hcx FSj
          have hltI : (j : Int) < P.length := by omega
          have hj0 : 0 ≤ (j : Int) := by omega
          have hpgl : pg < wi.heap.size := lt_of_cell hcx
          clear hx hop
          rcases found_or (os := os) x with ⟨k, hk, rfl⟩ | hno
          · have FDk := Lib.hid (fun W (hW : Below wi.heap.size wi W) => FD.out W k (BW.out.trans (hW.mono BW.out.size)) hk)
            have he := FSj.out
            obtain ⟨b, hb⟩ : ∃ b, (foldQ N S M (preQ N S M rs n) (P.take j)).1.1 (atR os k) = b := ⟨_, rfl⟩
            have hkI : (k : Int) < os.length := by omega
            have HKI := Lib.hid hk
            have hneg : ¬ (k : Int) < 0 := by omega
            obtain ⟨x, hx⟩ : ∃ x, atR os k * 2 = x := ⟨_, rfl⟩
            rw [hx] at hcx FDk
            have HX := Lib.hid hx
            have HBB := Lib.hid hb
            clear hx hb he
            go_upto_region 10 with fail
            (refine wp_region_later (by kernel_rfl) (by kernel_rfl) ?_; (repeat (go_big_quiet_step (((go_at_call 63; with_reducible exact calls_later_if FDk.out))))); refine wpQuiet_nil ?_; intro w5 hw4; have hg := later_elim hw4; clear hw4)
            have HB5 := Lib.hid (HB.out.trans (hg.mono (by omega)))
            have HO5 := Lib.hid (owns_later HO.out hg)
            have HP5 := Lib.hid (owns_later HP.out hg)
            have HR5 := Lib.hid (HR.out.of_block (hg.block (w.heap.size + 1) HR.out.lt))
            have hc5 := HR5.out.cell HKI.out
            rw [HBB.out] at hc5
            have hf5 := HR5.out.frozen k
            have hl5 := HR5.out.lt
            have h5s : w1.heap.size ≤ w5.heap.size := by have := hg.size; omega
            clear hg y0 y1 y2 hcx hmw
            cases b with
            | true =>
              go_wp2_with fail
              all_goals try (exfalso; go_light; omega)
              go_roundg (P.length - (j + 1))
              case measure => rw [HGJ.out]; omega
              case rel =>
                have hs : foldQ N S M (preQ N S M rs n) (P.take (j + 1)) = foldQ N S M (preQ N S M rs n) (P.take j) := by
                  rw [FSj.out]; exact LM.out _ k HKI.out HBB.out
                exact ⟨j + 1, aa, ac, ks, rfl, by omega, by go_num, rfl, HO5.out, HP5.out, by rw [hs]; exact HS.out, by rw [hs]; exact HR5.out, HB5.out, by omega⟩
            | false =>
              obtain ⟨hs2, hm2⟩ := LP.out _ k ks HKI.out HBB.out HS.out
              rw [← FSj.out] at hs2 hm2
              have HS6 := Lib.hid hs2
              have HR6 := Lib.hid ((HR5.out.set k (.bool true)).congr (g := fun i => .bool ((foldQ N S M (preQ N S M rs n) (P.take (j + 1))).1.1 (atR os i))) fun i hi => by
                rw [hm2 i hi]
                by_cases e : i = k
                · rw [if_pos e, if_pos e]
                · rw [if_neg e, if_neg e])
              have HB6 := Lib.hid (HB5.out.setCell (p := ⟨w.heap.size + 1, k, none⟩) (by simp) (.bool true))
              have HO6 := Lib.hid (ownsRow_setCell_below (a := ⟨w.heap.size + 1, k, none⟩) HO5.out (by simp) (.bool true))
              have HP6 := Lib.hid (ownsRow_setCell_below (a := ⟨w.heap.size + 1, k, none⟩) HP5.out (by simp) (.bool true))
              clear hs2 hm2
              go_upto_region 15 with fail
              all_goals try (exfalso; go_light; omega)
              obtain ⟨w6, hw6⟩ : ∃ w6, w6 = w5.setCell ⟨w.heap.size + 1, k, none⟩ (.bool true) := ⟨_, rfl⟩
              rw [← hw6] at HR6 HB6 HO6 HP6 ⊢
              have h6s : w.heap.size + 1 ≤ w6.heap.size := by have := HB6.out.size; omega
              clear hw6 hc5 hf5 hl5
              go_wp2_with (at_builtin; refine wpList_append_own _ rfl _ _ 22 rfl (w.heap.size + 2) 3 i1 (.int .i64 0) 1 8 Tryd.underlying22 hi1 hy0 hy1 hy2 rfl (by decide) _ _ _ rfl (HO6.out.alloc _) ⟨w6.heap.size, 0, none⟩ 1 1 [.int .i64 (k : Int)] rfl rfl ?c1 ?c2 ?c3 ?c4 ?c5 ?_)
              case c2 => rfl
              case c3 => unfold maxLen; omega
              case c4 => omega
              intro va w7 hown hgrow _
              obtain ⟨ga, ca, rfl, hga⟩ := owns_shape hown (by omega)
              have HP7 := Lib.hid ((HP6.out.alloc (.cells #[.int .i64 (k : Int)] 3)).kept hgrow (owns_apart HP6.out HO6.out (by decide)))
              have HR7 := Lib.hid (HR6.out.of_block ((hgrow.block (w.heap.size + 1) (by simp; have := HR6.out.lt; omega) (fun e => by have := HO6.out.lt _ e.symm; omega)).trans (heap_alloc_old w6 _ HR6.out.lt)))
              have HB7 := Lib.hid ((HB6.out.alloc (by omega) _).grown hgrow (by simp; omega) (fun q hq => by have := (HO6.out.lt q hq).1; omega))
              have HO7 := Lib.hid (show w7.ownsRow (w.heap.size + 2) 3 1 (.slice (some ⟨ga, 0, none⟩) (ks ++ [k]).length ca) (ks ++ [k]).length (idxVals (ks ++ [k])) by
                rw [List.length_append, show idxVals (ks ++ [k]) = idxVals ks ++ [.int .i64 (k : Int)] by simp [idxVals]]
                exact hown)
              clear hown hgrow
              go_wp2_with fail
              go_roundg (P.length - (j + 1))
              case measure => rw [HGJ.out]; omega
              case rel => exact ⟨j + 1, _, _, ks ++ [k], rfl, by omega, by go_num, by simp, HO7.out, HP7.out, HS6.out, HR7.out, HB7.out, by rw [List.length_append]; show ks.length + 1 ≤ _; omega⟩
          · have FNx := Lib.hid (fun W (hW : Below wi.heap.size wi W) => FN.out W x (BW.out.trans (hW.mono BW.out.size)) hno)
            clear hno
            go_upto_region 10 with fail
            (refine wp_region_later (by kernel_rfl) (by kernel_rfl) ?_; (repeat (go_big_quiet_step (((go_at_call 63; with_reducible exact calls_later_if FNx.out))))); refine wpQuiet_nil ?_; intro w5 hw4; have hg := later_elim hw4; clear hw4)
            have HBW := Lib.hid (BW.out.trans (hg.mono BW.out.size))
            clear hg
            go_wp2_with fail
            all_goals try (exfalso; go_light; omega)
            go_ret2
            exact ⟨Or.inl rfl, HBW.out⟩
        · obtain rfl : j = P.length := by omega
          have hst := HS.out
          have hrow := HR.out
          rw [List.take_length, FO.out] at hst hrow
          have HS2 := Lib.hid hst; have HR2 := Lib.hid hrow
          have hkl : (preQ N S M rs (n + 1)).1.2.1.length = ks.length := by rw [hst.wait, List.length_map]
          have hmo := PM.out n
          have HKL2 := Lib.hid hkl
          have hks : n ≤ ks.length := by have := HKL.out; omega
          clear hst hrow hkl hmo hop y0 y1 y2
          by_cases hlast : n < ks.length
          · obtain ⟨k, hk⟩ : ∃ k, ks.getD n 0 = k := ⟨_, rfl⟩
            have hg := List.getElem?_eq_getElem hlast
            have hke : ks[n] = k := by rw [← hk, List.getD_eq_getElem?_getD, hg]; rfl
            rw [hke] at hg
            have hkl : k < os.length := HS2.out.lt k (List.mem_of_getElem? hg)
            have hok := List.getElem?_eq_getElem hkl
            have HL1 := Lib.hid (show ptrL (listQ N S M rs (n + 1)) = ptrL (os[k].cls :: os[k].words) by
              show ptrL (if n < (preQ N S M rs (n + 1)).1.2.1.length then wordsA M ((preQ N S M rs (n + 1)).1.2.1.getD n 0 / 2) else []) = _
              rw [if_pos (by rw [HKL2.out]; exact hlast), HS2.out.wait, List.getD_eq_getElem?_getD, List.getElem?_map, hg]
              show ptrL (wordsA M (atR os k * 2 / 2)) = _
              rw [show atR os k * 2 / 2 = atR os k by omega, atR_eq hok, LW.out k _ hok])
            obtain ⟨og, ocap, hoe, hog⟩ := owns_shape HO.out (by omega)
            simp only [Value.slice.injEq] at hoe
            obtain ⟨rfl, -, rfl⟩ := hoe
            have hcx : wi.cell? ⟨og, n, none⟩ = some (.int .i64 (k : Int)) := by
              rw [HO.out.cellAt n (by omega)]
              simp [idxVals, List.getElem?_map, hg]
            have hogl : og < wi.heap.size := lt_of_cell hcx
            have hnI : (n : Int) < ks.length := by omega
            have LDk := Lib.hid (show Calls Tryd.prog 64 #[.agg #[.int .i64 200, .slice la os.length lc, .int .u32 0], .int .i64 (k : Int)] wi.drew _ from LDS.out wi.drew k os[k] BW.out.drew hok)
            have hxx := (HB.out.block w.heap.size (by omega)).trans HH1.out
            have y1 := cellO hxx 1
            have y0 := cellO hxx 0
            have y2 := cellO hxx 2
            simp at y0 y1 y2
            clear hk hg hke hok hxx
            go_upto_region 18 with fail
            all_goals try (exfalso; go_light; omega)
            go_region_with (go_at_call 64; go_loud (refine LDk.out.mono ?_; rintro e w7 ⟨v7, rfl, ho7, hg7⟩; obtain ⟨xa, xc, rfl⟩ := owns_len ho7; have HO7 := Lib.hid ho7; have HG7 := Lib.hid hg7; clear ho7 hg7))
            all_goals
              have hgx : Below wi.heap.size wi w7 := ⟨HG7.out.os, HG7.out.tape, HG7.out.output, HG7.out.size, HG7.out.block⟩
              have hox : w7.ownsRow (w.heap.size + 2) 48 1 (.slice xa (ptrL (os[k].cls :: os[k].words)).length xc) (ptrL (os[k].cls :: os[k].words)).length (wordVals (ptrL (os[k].cls :: os[k].words))) := owns_mono HO7.out (by simp; omega)
              rw [← HL1.out] at hox ⊢
              have HO8 := Lib.hid (owns_later HO.out hgx)
              have HX8 := Lib.hid hox
              have HR8 := Lib.hid (HR2.out.of_block (hgx.block (w.heap.size + 1) HR2.out.lt))
              have HB8 := Lib.hid (HB.out.trans (hgx.mono (by omega)))
              clear hox hgx y0 y1 y2 hcx
              go_wp2_with fail
              go_roundg (N + 2 - (n + 1))
              case measure => rw [HGN.out]; omega
              case rel => exact ⟨n + 1, _, _, xa, xc, ks, rfl, by go_num, rfl, rfl, HO8.out, HX8.out, HS2.out, HR8.out, by rw [HKL2.out]; omega, HB8.out⟩
          · have HL0 := Lib.hid (show ptrL (listQ N S M rs (n + 1)) = [] by
              show ptrL (if n < (preQ N S M rs (n + 1)).1.2.1.length then _ else []) = []
              rw [if_neg (by rw [HKL2.out]; exact hlast)]; rfl)
            go_wp2_with fail
            all_goals try (exfalso; go_light; omega)
            go_roundg (N + 2 - (n + 1))
            case measure => rw [HGN.out]; omega
            case rel => exact ⟨n + 1, aa, ac, none, 0, ks, rfl, by go_num, rfl, by rw [HL0.out]; rfl, HO.out, by rw [HL0.out]; exact World.ownsRow_nil _ _ _ _, HS2.out, HR2.out, by rw [HKL2.out]; omega, HB.out⟩
    · obtain ⟨m, rfl⟩ : ∃ m, n = m + 1 := ⟨n - 1, by omega⟩
      have hm : ks.length = m := by omega
      have HO2 := Lib.hid (owns_mono HOO.out (show w.heap.size ≤ w.heap.size + 2 by omega))
      have HBW := Lib.hid (HB1.out.trans (HBR.out.mono (by omega)))
      go_wp2_with fail
      all_goals try (exfalso; go_light; omega)
      go_ret2
      exact ⟨Or.inr ⟨m, ks, _, by have := HKL.out; show (preQ N S M rs (m + 1)).1.2.1.length = m; omega, HST.out, rfl, HO2.out⟩, HBW.out⟩
end Go.Proofs.YtffbhocgjpdjpaaDoor
