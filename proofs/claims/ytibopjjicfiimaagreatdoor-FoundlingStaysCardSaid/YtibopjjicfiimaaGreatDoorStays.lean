/- FoundlingStays: a Smalltalk's memory that is sound is sound behind a collection, and in an image: for every town and all changes. -/
import Derived.Test.YtibopjjicfiimaaGreatDoorStayO
import Derived.Test.YtibopjjicfiimaaGreatDoorTownO
import Derived.Test.YtibopjjicfiimaaGreatDoorTie
import Derived.Test.YtibopjjicfiimaaGreatDoorCards
import Derived.ChangeOld
namespace Go.Proofs.YtibopjjicfiimaaGreatDoor.foundlingStays
open Go.ChangeShapes Go.WideShapes Go.ChangeAt Go.RowKit
set_option linter.unusedVariables false
theorem walk (s1 s2 a3 : Option Addr) (n1 c1 n2 c2 n3 c3 : Nat) (w : World) (h1 : IntsIn w s1 n1) (h2 : IntsIn w s2 n2) (hn1 : n1 ≤ maxLen) (hn2 : n2 ≤ maxLen) (h3 : ChgAt w.heap.size w a3 n3) (hn3 : n3 ≤ maxLen)
    (htab : 0 < w.heap.size) (hT : TabAt 0 Lib.deBruijn64tab w) :
    Calls Tryz.prog 3 #[.agg #[.slice s1 n1 c1, .slice s2 n2 c2], .slice a3 n3 c3] w fun e w' => e = .returned (.bool true) ∧ Below w.heap.size w w' := by
  refine stays_walk (TownQ w.heap.size) s1 s2 a3 n1 c1 n2 c2 n3 c3 w htab hT ?_ townQ_later ?_ townQ_set ?_
  · intro W hW
    refine (tlay_any s1 s2 n1 c1 n2 c2 W (ints_later h1 hW) (ints_later h2 hW) hn1 hn2).mono ?_
    rintro e w' ⟨la, ln, lc, r, rfl, hq, hb⟩
    exact ⟨la, ln, lc, r, rfl, townQ_weak hq hW.size, hb⟩
  · rintro W la ln lc hW ⟨os, q1, q2, q3⟩
    refine (twnturn_any w.heap.size w a3 n3 c3 h3 hn3 W hW.size hW la ln lc os q1 q2 q3).mono ?_
    rintro e w' ⟨rfl, ⟨os', k1, k2⟩, hb, hf⟩
    exact ⟨la, ln, lc, rfl, ⟨os', k1, q2, by omega⟩, hW.trans hb, hf⟩
  · intro W la ln lc hW hq
    exact own_town w.heap.size W la ln lc hq
theorem own : ownKnob Tryz.prog.godebug = none := by kernel_rfl
theorem laidOut : laidOutB Tryz.prog = true := by kernel_rfl
set_option maxRecDepth 100000 in
theorem lifted (os : Os) (started : os.Started) (H : Type) (enc : TypeId × Value → H) :
    ReturnsInHanded {} Tryz.checked os 3 .any (fun w args => (Rows.foundlingStaysSpec.pre enc Tryz.prog Tryz.f3 Rows.foundlingStaysRow.domain false w args ∧ laidMet Tryz.prog Rows.foundlingStaysRow.laid w) ∧ sizedMet enc Tryz.prog Tryz.f3 (OpenSpec.ofChange Rows.foundlingStaysSpec) false w args)
      (Rows.foundlingStaysSpec.post enc Tryz.prog Tryz.f3 false true false false) := by
  refine returnsInHanded_of_change_and (C := Tryz.checked) (X := fun w _ => laidMet Tryz.prog Rows.foundlingStaysRow.laid w) (fun _ _ _ hh h => h.of_heap hh) own started (by kernel_rfl) Tryz.func3
    (ChangeSpec.witness_at (enc := enc) (C := Tryz.checked) (os := os) (X := fun w _ => laidMet Tryz.prog Rows.foundlingStaysRow.laid w) false (laidWorld os) #[.agg #[.slice none 0 0, .slice none 0 0], .slice none 0 0] 8 rfl (by kernel_rfl) (by kernel_rfl) (by kernel_rfl) (by kernel_rfl) (by kernel_rfl) (laid_met os _)) ?_
  intro W base args ds gs before hval0 hW hcnd hsz0 hL _
  have hval : ∀ (j : Nat) t v, Tryz.f3.params[j]? = some t → args[j]? = some v → Value.okWide Tryz.prog W .any base t v := hval0
  have hW' := hW
  obtain ⟨p, q, hA0, hV, rfl, hfz, hnd⟩ := hW
  have hA : DataW.TrodAll enc Tryz.prog W 0 (fun _ => true) true Tryz.f3.params.toList args.toList ds p := hA0
  rw [Tryz.params3] at hA hval
  obtain ⟨v0, vs0, d0, ds0, p0, q0, hargs, rfl, rfl, h0, r0⟩ := trodAll_cons hA
  obtain ⟨v1, vs1, d1, ds1, p1, q1, rfl, rfl, rfl, h1, r1⟩ := trodAll_cons r0
  obtain ⟨rfl, rfl, rfl⟩ := trodAll_nil r1
  obtain rfl : args = #[v0, v1] := by cases args; simp_all
  obtain ⟨rfl, rfl⟩ := trodVars_none hV
  have k0 := h0
  have lt0 : ∀ x ∈ p0, x.block < W.heap.size := by obtain ⟨m, hm⟩ := k0; exact DataW.trod_lt m _ _ _ hm
  have k1 := h1
  have lt1 : ∀ x ∈ p1, x.block < W.heap.size := by obtain ⟨m, hm⟩ := k1; exact DataW.trod_lt m _ _ _ hm
  obtain ⟨s1, s2, n1, c1, n2, c2, rfl, i1, i2, m1, m2⟩ := open_town (hval 0 24 v0 rfl rfl) h0
  obtain ⟨a3, n3, c3, rfl, m3, i3⟩ := open_changes (hval 1 25 v1 rfl rfl) h1
  have hT := tab_of_laid hL
  clear hA0 hval0
  refine (walk s1 s2 a3 n1 c1 n2 c2 n3 c3 W i1 i2 m1 m2 i3 m3 (tab_lt hT) hT).mono fun e W' ⟨he, bel⟩ => ?_
  subst he
  exact ⟨_, rfl, _, _, _, [], _, [], hW', trodAll_mk1 (shut_bool Tryz.underlying4 _), (trodAll_cons_mk (Below.trod laidOut (by kernel_rfl) (of_decide_eq_true (by kernel_rfl)) k0 bel lt0) (trodAll_cons_mk (Below.trod laidOut (by kernel_rfl) (of_decide_eq_true (by kernel_rfl)) k1 bel lt1) trodAll_mk0)), rfl, bel.frame _, fun h => by cases h⟩
theorem over : Rows.foundlingStaysRow.holds Tryz.pinned (OpenSpec.ofChange Rows.foundlingStaysSpec) :=
  OpenClaim.holds_of_wide 3 Tryz.f3 rfl rfl rfl rfl rfl rfl rfl ⟨rfl, rfl, rfl, rfl, rfl⟩ rfl rfl rfl rfl rfl (by kernel_rfl) Tryz.func3 (by kernel_rfl)
    (of_decide_eq_true (by kernel_rfl)) (by unfold Func.isWrapper; rw [if_neg (by decide +kernel)]; exact ⟨rfl, rfl⟩)
    (fun os started H enc _ => lifted os started H enc)
theorem proved : Rows.FoundlingStaysCardSaid :=
  Claim7.holds_tied_plain_at .later [] [.data] true (true, "2aaa5e9e34c2cbdefa3042daf48e9198a49535e5c385fb22a76b363540da45e8") false
    over (fun _ h => by cases h) (by kernel_rfl) (fun _ h => by cases h) foundlingStays_row_tie rfl ⟨rfl, rfl⟩ (by kernel_rfl) rfl
    (fun f fn hf hfn => by
      obtain rfl : f = 3 := Option.some.inj ((show Tryz.prog.funcNamed "foundling/foundlingtop.FoundlingStays" = some 3 by kernel_rfl).symm.trans hf) |>.symm
      obtain rfl : fn = Tryz.f3 := (Option.some.inj (Tryz.func3.symm.trans hfn)).symm
      exact ⟨by kernel_rfl, fun j t ht => by
        have hall : (Tryz.f3.params.all fun t => !Tryz.prog.wantsStandIn t) = true := by kernel_rfl
        rw [Array.all_eq_true_iff_forall_mem] at hall
        have := hall t (Array.mem_of_getElem? ht)
        show Tryz.prog.wantsStandIn t = false
        simpa using this⟩)
    (by kernel_rfl)
end Go.Proofs.YtibopjjicfiimaaGreatDoor.foundlingStays
