/- A map from numbers to answers that the call has made. Objects that stand one behind the other: lay finds where they begin. Load: words become memory, where objects stand one behind the other. -/
import Derived.Test.YtobajnodckiohaaDoorLayC
import Derived.Maps.Own
import Derived.Maps.OwnOps
import Derived.Maps.OwnSet
import Derived.BigQuiet
import Derived.Laws.CopyOwn
namespace Go.Proofs.YtobajnodckiohaaDoor
open Go.RowKit Go.Maps
set_option linter.unusedVariables false
theorem keyU : Keyed Tryd.prog 29 := int_keyed Tryd.underlying29
theorem zeroBool (w : World) : (zeroValue 4).run Tryd.prog w = .ok (.bool false) w := by kernel_rfl
def U32 (n : Int) : Prop := 0 ≤ n ∧ n < 4294967296
theorem u32_wf {a : Int} (h : U32 a) : (Lit.int .u32 a).wf = true := WalkArith.wf_u32 ⟨h.1, by have := h.2; omega⟩
def updB (f : Int → Bool) (z : Int) : Int → Bool := fun x => if x = z then true else f x
theorem updB_same (f : Int → Bool) (z : Int) : updB f z z = true := if_pos rfl
theorem updB_other {f : Int → Bool} {z x : Int} (h : x ≠ z) : updB f z x = f x := if_neg h
theorem plainElem_bool_inv {P : Program} {e : TypeId} (he : P.underlying e = some .bool) {v : Value} {z : DataW Unit × List MemPlace} (h : plainElem P e v = some z) : ∃ a, v = .bool a ∧ z = (.lit (.bool a), []) := by
  unfold plainElem at h
  rw [he] at h
  cases v <;> simp at h
  exact ⟨_, rfl, h.symm⟩
/-- block b is a map that says yes of just those numbers, of at most n entries -/
def MapB (w : World) (b : Nat) (f : Int → Bool) (n : Nat) : Prop :=
  ∃ D : DataW Unit, w.ownsMap Tryd.prog 29 (plainElem (H := Unit) Tryd.prog 4) b n D ∧ IsMap D ∧ (∀ z, D.atKey (.int .u32 z) (.lit (.bool false)) = .lit (.bool (f z)))
theorem MapB.lt {w : World} {b n : Nat} {f : Int → Bool} (h : MapB w b f n) : b < w.heap.size := by obtain ⟨D, h, _⟩ := h; exact h.lt
theorem MapB.block {w w' : World} {b n : Nat} {f : Int → Bool} (h : MapB w b f n) (hb : w'.heap[b]? = w.heap[b]?) : MapB w' b f n := by
  obtain ⟨D, ⟨es, clock, h1, h3⟩, h2⟩ := h
  exact ⟨D, ⟨es, clock, hb.trans h1, h3⟩, h2⟩
theorem MapB.made (w : World) : MapB (w.alloc (.map #[] 0)) w.heap.size (fun _ => false) 0 :=
  ⟨.map [], World.ownsMap_made _ _ _ _, isMap_empty, fun _ => rfl⟩
theorem MapB.look {w : World} {b n : Nat} {f : Int → Bool} (h : MapB w b f n) {z : Int} (hz : U32 z) :
    (Instr.lookup 138 (.map (some b)) (.int .u32 z) false).run Tryd.prog w = .ok (.bool (f z)) w := by
  obtain ⟨D, h, hD, h2⟩ := h
  obtain ⟨v, ps, hrun, hv⟩ := h.lookup keyU Tryd.underlying138 (zeroBool w) (plainElem_bool Tryd.underlying4 false) (keyOf_int_mk Tryd.underlying29 (u32_wf hz))
  obtain ⟨c, rfl, hc⟩ := plainElem_bool_inv Tryd.underlying4 hv
  have hat := congrArg Prod.fst hc
  simp only [h2 z] at hat
  simp only [DataW.lit.injEq, Lit.bool.injEq] at hat
  exact hrun.trans (congrArg (fun c => Result.ok (Value.bool c) w) hat.symm)
theorem MapB.put {w' : World} {b n : Nat} {f : Int → Bool} {D : DataW Unit} {z : Int} (hz : U32 z) (hD : IsMap D) (h2 : ∀ z, D.atKey (.int .u32 z) (.lit (.bool false)) = .lit (.bool (f z)))
    (h : w'.ownsMap Tryd.prog 29 (plainElem (H := Unit) Tryd.prog 4) b (n + 1) (D.put (.int .u32 z) (.lit (.bool true)))) : MapB w' b (updB f z) (n + 1) := by
  have hk : WideAt.IsKeyLit (Lit.int .u32 z) := keyU.key (keyOf_int_mk Tryd.underlying29 (u32_wf hz))
  refine ⟨_, h, hD.put _ _, fun x => ?_⟩
  by_cases hx : x = z
  · subst hx; rw [atKey_put_same hD hk, updB_same]
  · rw [atKey_put_other (by intro e; injection e with _ e; exact hx e), updB_other hx, h2]
end Go.Proofs.YtobajnodckiohaaDoor
namespace Go.Proofs.YtobajnodckiohaaDoor
open Go.RowKit
set_option linter.unusedVariables false
/-- how many words follow the head at a place -/
def cellsM (M : Nat → Nat) (a : Nat) : Nat := (cellsZ (M a) (hK (M (a + 1))) (hS (M (a + 1))) 0).toNat
/-- an object stands there, without a number of its own -/
def StandsAt (M : Nat → Nat) (a : Nat) : Prop :=
  UnOK (M a) (M (a + 1)) ∧ hH (M (a + 1)) = 0 ∧ (hK (M (a + 1)) = 2 → 0 < hS (M (a + 1)) % 8 → M (a + 2 + cellsM M a - 1) / 2 ^ (8 * (hS (M (a + 1)) % 8).toNat) = 0)
/-- objects one behind the other, up to the first free cell -/
def Chain4 (M : Nat → Nat) (free : Nat) : Nat → List Nat → Prop
  | a, [] => a = free
  | a, x :: l => x = a ∧ StandsAt M a ∧ Chain4 M free (a + 2 + cellsM M a) l
theorem Chain4.le {M : Nat → Nat} {free : Nat} : ∀ {l : List Nat} {a : Nat}, Chain4 M free a l → a ≤ free
  | [], a, h => Nat.le_of_eq h
  | x :: l, a, ⟨_, _, h⟩ => by have := Chain4.le h; omega
def setAll (N : Nat) (S : Nat → Bool) : List Nat → Nat → Bool
  | [] => S
  | x :: l => setAll N (setS N S (x : Int) true) l
theorem setAll_iff (N : Nat) : ∀ (l : List Nat) (S : Nat → Bool) (a : Nat), (∀ x ∈ l, x < N) → (setAll N S l a = true ↔ a ∈ l ∨ S a = true)
  | [], S, a, _ => by simp [setAll]
  | x :: l, S, a, h => by
    rw [setAll, setAll_iff N l _ a fun y hy => h y (List.mem_cons_of_mem _ hy), setT N x S (h x (List.mem_cons_self)) a, List.mem_cons]
    constructor
    · rintro (h | h | h)
      · exact Or.inl (Or.inr h)
      · exact Or.inl (Or.inl h)
      · exact Or.inr h
    · rintro ((h | h) | h)
      · exact Or.inr (Or.inl h)
      · exact Or.inl h
      · exact Or.inr (Or.inr h)
theorem cellsM_eq {M : Nat → Nat} {a : Nat} : cellsZ (M a) (hK (M (a + 1))) (hS (M (a + 1))) 0 = (cellsM M a : Int) := by
  have := (cellsZ_bd (M a) (hK (M (a + 1))) (hS (M (a + 1))) 0).1
  unfold cellsM; omega
/-- how many words follow the head at a place, numbered or not -/
def cellsN (M : Nat → Nat) (a : Nat) : Nat := (cellsZ (M a) (hK (M (a + 1))) (hS (M (a + 1))) (hH (M (a + 1)))).toNat
/-- an object stands there; its number has been given -/
def StandsN (M : Nat → Nat) (a : Nat) : Prop :=
  UnOK (M a) (M (a + 1)) ∧ hH (M (a + 1)) ≤ (M 16777216 : Int) ∧ (hK (M (a + 1)) = 2 → 0 < hS (M (a + 1)) % 8 → M (a + 2 + cellsN M a - 1) / 2 ^ (8 * (hS (M (a + 1)) % 8).toNat) = 0)
/-- objects one behind the other, numbered or not -/
def Chain5 (M : Nat → Nat) (free : Nat) : Nat → List Nat → Prop
  | a, [] => a = free
  | a, x :: l => x = a ∧ StandsN M a ∧ Chain5 M free (a + 2 + cellsN M a) l
/-- no number is given twice -/
def UniqH (M : Nat → Nat) : List Nat → Prop
  | [] => True
  | x :: l => (∀ y, y ∈ l → hH (M (x + 1)) ≠ 0 → hH (M (y + 1)) ≠ hH (M (x + 1))) ∧ UniqH M l
theorem Chain5.le {M : Nat → Nat} {free : Nat} : ∀ {l : List Nat} {a : Nat}, Chain5 M free a l → a ≤ free
  | [], a, h => Nat.le_of_eq h
  | x :: l, a, ⟨_, _, h⟩ => by have := Chain5.le h; omega
theorem cellsN_eq (M : Nat → Nat) (a : Nat) : cellsZ (M a) (hK (M (a + 1))) (hS (M (a + 1))) (hH (M (a + 1))) = (cellsN M a : Int) := by
  have := (cellsZ_bd (M a) (hK (M (a + 1))) (hS (M (a + 1))) (hH (M (a + 1)))).1
  unfold cellsN; omega
theorem chain5_of {M : Nat → Nat} {free : Nat} : ∀ {l : List Nat} {a : Nat}, Chain4 M free a l → Chain5 M free a l ∧ UniqH M l
  | [], a, h => ⟨h, trivial⟩
  | x :: l, a, ⟨hx, ⟨h1, h2, h3⟩, h4⟩ => by
    have e : cellsM M a = cellsN M a := by unfold cellsM cellsN; rw [h2]
    rw [e] at h3 h4
    obtain ⟨i1, i2⟩ := chain5_of h4
    subst hx
    exact ⟨⟨rfl, ⟨h1, by rw [h2]; omega, h3⟩, i1⟩, fun y _ h => absurd h2 h, i2⟩
/-- the cells of memory's own block -/
theorem HeapAt.all {w : World} {B h N free : Nat} {S : Nat → Bool} {M : Nat → Nat} (H : HeapAt w B h N free S M) :
    ∃ g s, w.cell? ⟨h, 0, none⟩ = some (.slice (some ⟨g, 0, none⟩) N N) ∧ w.cell? ⟨h, 1, none⟩ = some (.int .i64 (free : Int)) ∧ w.cell? ⟨h, 2, none⟩ = some (.pointer (some ⟨s, 0, none⟩)) ∧ w.cell? ⟨h, 3, none⟩ = some (.int .u32 (M 16777216 : Int)) ∧
      h < w.heap.size ∧ g < w.heap.size ∧ free ≤ N ∧ N ≤ 16777216 ∧ (∀ i, i < N → w.cell? ⟨g, i, none⟩ = some (.int .u64 (M i : Int))) ∧ ∀ i, M i < 18446744073709551616 := by
  obtain ⟨g, s, h1, h2, h3, h3', h4, h5, h6, h7, h8⟩ := H
  exact ⟨g, s, by simp [World.cell?, h5], by simp [World.cell?, h5], by simp [World.cell?, h5], by simp [World.cell?, h5], (Array.getElem?_eq_some_iff.1 h5).1, h6.lt, h4, h3, fun i hi => h6.cell hi, h7⟩
theorem key_u32 : Go.Maps.Keyed Tryd.prog 29 := Go.Maps.int_keyed Tryd.underlying29
theorem hH_bd {x : Nat} (h : x < 18446744073709551616) : 0 ≤ hH (x : Int) ∧ hH (x : Int) < 4294967296 := by unfold hH; omega
set_option maxRecDepth 100000 in
set_option maxHeartbeats 1600000 in
theorem laid_num (B h N free : Nat) (l : List Nat) (M : Nat → Nat) (w : World) (H : HeapAt w B h N free (fun _ => false) M) (hB : B ≤ w.heap.size) (hc : Chain5 M free 2 l) (hu : UniqH M l) :
    Calls Tryd.prog 57 #[.pointer (some ⟨h, 0, none⟩)] w fun e w' => e = .returned (.bool true) ∧ HeapAt w' B h N free (setAll N (fun _ => false) l) M ∧ Below B w w' := by
  have HH := Lib.hid H
  have HLT := Lib.hid H.lt
  have HC := Lib.hid hc
  have HU := Lib.hid hu
  clear H hc hu
  obtain ⟨C, hC⟩ : ∃ C, C = w.heap.size := ⟨_, rfl⟩
  rw [← hC] at HLT hB
  have mk := fun W : World => run_makeMap (P := Tryd.prog) 138 W
  go_enter Tryd.func57, Tryd.ntmps57
  go_upto_region 2 with fail
  obtain ⟨w1, hw1⟩ : ∃ w1, w1 = w.alloc (.map #[] 0) := ⟨_, rfl⟩
  rw [← hw1, ← hC]
  have hb1 : Below w.heap.size w w1 := by rw [hw1]; exact (Below.refl _ w).alloc (Nat.le_refl _) _
  have HM1 := Lib.hid (show MapB w1 C (fun _ => false) 0 from by rw [hw1, hC]; exact MapB.made w)
  have HH1 := Lib.hid (HH.out.later hb1)
  have HL1 := Lib.hid (HLT.out.far fun q hq => hb1.block q (by omega))
  have HB1 := Lib.hid (hb1.mono (by omega) : Below B w w1)
  have HCW := Lib.hid hC
  clear hw1 hb1 hC
  go_wp2_with fail
  go_loopg [4] free (fun gg s4 wr => ∃ (a n : Nat) (l' : List Nat) (S' : Nat → Bool) (F : Int → Bool), gg = free + 2 - a ∧ 2 ≤ a ∧ n ≤ a ∧ s4 = .int .i64 (a : Int) ∧ Chain5 M free a l' ∧ UniqH M l' ∧ (∀ y, y ∈ l' → hH (M (y + 1)) ≠ 0 → F (hH (M (y + 1))) = false) ∧ setAll N S' l' = setAll N (fun _ => false) l ∧ HeapAt wr B h N free S' M ∧ HeapLt wr h C ∧ MapB wr C F n ∧ Below B w wr)
  case atStart => exact ⟨2, 0, l, _, _, by omega, Nat.le_refl _, by omega, rfl, HC.out, HU.out, fun _ _ _ => rfl, rfl, HH1.out, HL1.out, HM1.out, HB1.out⟩
  case round =>
    obtain ⟨a, n, l', S', F, hga, ha2, hna, rfl, hch, huq, hfr, hset, hh, hlt, hm, hb⟩ := hrel
    have HFR := Lib.hid hfr; clear hfr
    have HGA := Lib.hid hga; have HSET := Lib.hid hset; have HHR := Lib.hid hh; have HLR := Lib.hid hlt; have HMR := Lib.hid hm; have HBR := Lib.hid hb
    have hszr := hb.size
    obtain ⟨g, s, c0, c1, c2, c3, hl, hgl, hfN, hN, hcell, hMl⟩ := hh.all
    cases l' with
    | nil =>
      have hch : a = free := hch
      subst hch
      clear hga hset hh hlt hm hb hcell
      go_wp2_with fail
      go_ret
      rw [show setAll N S' [] = S' from rfl] at HSET
      rw [← HSET.out]
      exact ⟨rfl, HHR.out, HBR.out⟩
    | cons x0 l2 =>
      obtain ⟨rfl, ⟨hun, hh0, htail⟩, hch2⟩ := hch
      obtain ⟨hq1, hq2⟩ := huq
      have HQ1 := Lib.hid hq1; have HQ2 := Lib.hid hq2
      have HF0 := Lib.hid (HFR.out x0 (List.mem_cons_self))
      have hhb := hH_bd (hh.all.elim fun g h => h.elim fun s h => h.2.2.2.2.2.2.2.2.2 (x0 + 1))
      clear hq1 hq2
      have hle := hch2.le
      have HCH := Lib.hid hch2; have HTL := Lib.hid htail
      have k0 := hcell x0 (by omega)
      have k1 := hcell (x0 + 1) (by omega)
      have m0 := hMl x0
      have m1 := hMl (x0 + 1)
      have U := Lib.hid (fun W => unpack_yes (M x0) (M (x0 + 1)) (by omega) (by omega) (by omega) (by omega) hun W)
      have CL := Lib.hid (fun W => cells_any (M x0) (hK (M (x0 + 1))) (hS (M (x0 + 1))) (hH (M (x0 + 1))) (hM (M (x0 + 1))) (by omega) (by omega) W)
      rw [cellsN_eq] at CL
      obtain ⟨-, -, s1, kk1, -⟩ := hun
      have s0 : 0 ≤ hS (M (x0 + 1)) := by unfold hS; omega
      have kk0 : 0 ≤ hK (M (x0 + 1)) := by unfold hK; omega
      clear hga hset hh hlt hm hb hcell hMl hch2 htail
      obtain ⟨nc, hnc⟩ : ∃ nc, cellsN M x0 = nc := ⟨_, rfl⟩
      rw [hnc] at CL HCH HTL hle
      generalize hH (M (x0 + 1)) = vh at *
      generalize hK (M (x0 + 1)) = vk at *
      obtain ⟨vs, hvs⟩ : ∃ vs : Nat, hS (M (x0 + 1)) = vs := ⟨(hS (M (x0 + 1))).toNat, by omega⟩
      rw [hvs] at U CL HTL s1 s0
      clear hvs
      generalize hM (M (x0 + 1)) = vm at *
      have har : ∀ W : World, (Instr.arrayAt 95 (.slice (some ⟨g, x0, none⟩) 2 (N - x0))).run Tryd.prog W = .ok (.pointer (some ⟨g, x0, none⟩)) W := fun W => run_arrayAt W 95 38 2 _ _ _ Tryd.underlying95 (Nat.le_refl _)
      go_wp2_with fail
      all_goals try (exfalso; go_light; omega)
      refine (U.out _).mono ?_
      rintro e w1 ⟨rfl, hg1⟩
      have HB1 := Lib.hid hg1
      have hz1 := hg1.size
      clear hg1 c0 c1 c2 c3 k0 k1 hl hgl
      go_upto_region 7 with fail
      obtain ⟨w2, hw2⟩ : ∃ w2, w2 = w1.alloc (.cells #[.int .u64 (M x0 : Int), .int .i64 vk, .int .i64 (vs : Int), .int .u32 vh, .bool vm] 52) := ⟨_, rfl⟩
      rw [← hw2]
      have hx2 : w2.heap[w1.heap.size]? = some (.cells #[.int .u64 (M x0 : Int), .int .i64 vk, .int .i64 (vs : Int), .int .u32 vh, .bool vm] 52 (0, 0)) := by rw [hw2]; exact heap_alloc_new w1 _
      have hb2 : Below w1.heap.size w1 w2 := by rw [hw2]; exact (Below.refl _ w1).alloc (Nat.le_refl _) _
      have HB2 := Lib.hid (HB1.out.trans (hb2.mono hz1))
      have hl2 := (Array.getElem?_eq_some_iff.1 hx2).1
      have v0 := cellO hx2 0
      have v1 := cellO hx2 1
      have v2 := cellO hx2 2
      have v3 := cellO hx2 3
      have v4 := cellO hx2 4
      simp at v0 v1 v2 v3 v4
      have HX2 := Lib.hid hx2
      clear hw2 hx2 hb2
      go_wp2_with fail
      refine (CL.out _).mono ?_
      rintro e w3 ⟨rfl, hg3⟩
      have hx3 := (hg3.block _ hl2).trans HX2.out
      have HB3 := Lib.hid (HB2.out.trans (hg3.mono HB2.out.size))
      have hz3 := hg3.size
      have hl3 := (Array.getElem?_eq_some_iff.1 hx3).1
      clear v0 v1 v2 v3 v4
      have v0 := cellO hx3 0
      have v1 := cellO hx3 1
      have v2 := cellO hx3 2
      have v3 := cellO hx3 3
      have v4 := cellO hx3 4
      simp at v0 v1 v2 v3 v4
      have HX3 := Lib.hid hx3
      have HH3 := Lib.hid (HHR.out.later HB3.out)
      obtain ⟨g3, s3, c0, c1, c2, c3, hl, hgl, -, -, hcell, -⟩ := HH3.out.all
      clear hg3 hx3 hcell
      have q1 : ¬ ((free : Int) - x0 - 2 < nc) := by omega
      go_upto_region 8 with fail
      have qd : decide ((free : Int) - x0 - 2 < nc) = false := decide_eq_false (by omega)
      have qe : decide ((M 16777216 : Int) < vh) = false := decide_eq_false (by omega)
      have HM3 := Lib.hid (HMR.out.block (w' := w3) (HB3.out.block C HMR.out.lt))
      go_cut [71] from 39 to 70 (fun s71 wx => s71 = .bool false ∧ ∃ k, wx = w3.drewN k)
      case first =>
        have hF := HF0.out
        by_cases hv0 : vh = 0
        · subst hv0
          clear hF
          go_quiet (fail)
          go_wp2_with fail
          go_meet
          exact ⟨rfl, _, rfl⟩
        · have hFv := hF hv0
          have LK : ∀ n, (Instr.lookup 138 (.map (some C)) (.int .u32 vh) false).run Tryd.prog (w3.drewN n) = .ok (.bool false) (w3.drewN n) := fun n => by
            have hmn : MapB (w3.drewN n) C F _ := HM3.out.block rfl
            have := hmn.look ⟨hhb.1, hhb.2⟩
            rw [hFv] at this
            exact this
          have o1 : (vh == 0) = false := by simpa using hv0
          have o2 : (vh != 0) = true := by simpa using hv0
          clear hF hFv hv0
          go_quiet (fail)
          go_wp2_with fail
          go_meet
          exact ⟨rfl, _, rfl⟩
      case rest =>
      obtain ⟨rfl, k4, hwc4⟩ := hcut
      rw [hwc4]
      clear hwc4
      generalize hw4 : w3.drewN k4 = w4
      have hb4 : Below w3.heap.size w3 w4 := by rw [← hw4]; exact ⟨rfl, rfl, rfl, Nat.le_refl _, fun _ _ => rfl⟩
      have hx4 := (hb4.block _ hl3).trans HX3.out
      have HB4 := Lib.hid (HB3.out.trans (hb4.mono HB3.out.size))
      clear hw4 c0 c1 c2 c3 v0 v1 v2 v3 v4
      have hz4 := hb4.size
      have hl4 := (Array.getElem?_eq_some_iff.1 hx4).1
      have v0 := cellO hx4 0
      have v1 := cellO hx4 1
      have v2 := cellO hx4 2
      have v3 := cellO hx4 3
      have v4 := cellO hx4 4
      simp at v0 v1 v2 v3 v4
      have HX4 := Lib.hid hx4
      have HM4 := Lib.hid (HMR.out.block (w' := w4) (HB4.out.block C HMR.out.lt))
      have HCL := Lib.hid HMR.out.lt
      clear hx4 hb4 hl hgl
      obtain ⟨g4, s4, c0, c1, c2, c3, hl, hgl, -, -, hcell, -⟩ := (HHR.out.later HB4.out).all
      clear hcell
      obtain ⟨D, hD1, hD2, hD3⟩ := HM4.out
      have HD1 := Lib.hid hD1; have HD2 := Lib.hid hD2; have HD3 := Lib.hid hD3; clear hD1 hD2 hD3
      have hvu : U32 vh := ⟨hhb.1, hhb.2⟩
      go_wp2_with (at_mapUpdate; refine wpList_mapUpdate_own _ rfl _ _ _ 138 rfl 29 4 key_u32 Tryd.underlying138 _ C n D rfl HD1.out (by unfold maxLen; omega) _ _ _ rfl rfl (Go.Maps.keyOf_int_mk Tryd.underlying29 (u32_wf hvu)) _ [] (plainElem_bool Tryd.underlying4 true) ?_)
      intro w5 hown5 hgrow5
      have hcl := HCL.out
      have hx5 := (hgrow5.block w1.heap.size hl4 (fun e => by injection e with e; omega)).trans HX4.out
      have hfar5 : ∀ q, q < C → w5.heap[q]? = wr.heap[q]? := fun q hq => (hgrow5.block q (by omega) (fun e => by injection e with e; omega)).trans (HB4.out.block q (by omega))
      have hz5 := hgrow5.size
      have HH5 := Lib.hid (HHR.out.far HLR.out hfar5)
      have HL5 := Lib.hid (HLR.out.far hfar5)
      have HB5 := Lib.hid ((HBR.out.trans (HB4.out.mono (by omega))).grown hgrow5 (by omega) (fun k e => by injection e with e; omega))
      have HM5 := Lib.hid (MapB.put hvu HD2.out HD3.out hown5)
      have HX5 := Lib.hid hx5
      clear hgrow5 hown5 hfar5 hvu v0 v1 v2 v3 v4 c0 c1 c2 c3 hl hgl HX4 HM4
      have hl5 := (Array.getElem?_eq_some_iff.1 hx5).1
      have v0 := cellO hx5 0
      have v1 := cellO hx5 1
      have v2 := cellO hx5 2
      have v3 := cellO hx5 3
      have v4 := cellO hx5 4
      simp at v0 v1 v2 v3 v4
      clear hx5
      obtain ⟨g5, s5, c0, c1, c2, c3, hl, hgl, -, -, hcell, -⟩ := HH5.out.all
      have HCE := Lib.hid hcell
      clear hcell
      go_upto_region 12 with fail
      all_goals try (exfalso; go_light; omega)
      obtain ⟨r, hr⟩ : ∃ r : Nat, (vs : Int) % 8 = (r : Int) := ⟨vs % 8, by omega⟩
      rw [hr]
      rw [hr, Int.toNat_natCast] at HTL
      have hr8 : r < 8 := by omega
      clear hr
      go_cut [101] from 78 to 101 (fun s101 wx => s101 = .bool false ∧ ∃ k, wx = w5.drewN k)
      case first =>
        by_cases hk2 : vk = 2
        · subst hk2
          by_cases hr0 : r = 0
          · subst hr0
            go_wp2_with fail
            all_goals go_meet
            exact ⟨rfl, 0, rfl⟩
          · have hr1 : decide ((0 : Int) < (r : Int)) = true := decide_eq_true (by omega)
            have hzz := HTL.out rfl (by omega)
            obtain ⟨q, hq⟩ : ∃ q, x0 + 2 + nc - 1 = q := ⟨_, rfl⟩
            rw [hq] at hzz
            have ce := HCE.out q (by omega)
            have hqz : (x0 : Int) + 2 + nc - 1 = q := by omega
            have hz : (M q : Int) / 2 ^ (8 * r) = 0 := by exact_mod_cast hzz
            clear hzz
            go_wp2_with fail
            all_goals try (exfalso; go_light; omega)
            all_goals go_meet
            all_goals first | exact ⟨rfl, 0, rfl⟩ | trace_state
        · have hk3 : decide (vk = 2) = false := decide_eq_false hk2
          have hk4 : (vk == 2) = false := by simpa using hk2
          go_wp2_with fail
          all_goals go_meet
          exact ⟨rfl, 0, rfl⟩
      case rest =>
        obtain ⟨rfl, k6, hwc⟩ := hcut
        rw [hwc]
        clear hwc v0 v1 v2 v3 v4 c0 c1 c2 c3 hl hgl
        generalize hw6 : w5.drewN k6 = w6
        have hb6 : Below w5.heap.size w5 w6 := by rw [← hw6]; exact ⟨rfl, rfl, rfl, Nat.le_refl _, fun _ _ => rfl⟩
        have hx6 := (hb6.block _ hl5).trans HX5.out
        have hL6 := HL5.out.far (w' := w6) fun q hq => hb6.block q (by have := HM5.out.lt; omega)
        have hh6 := HH5.out.later hb6
        have hm6 := HM5.out.block (w' := w6) (hb6.block C HM5.out.lt)
        have HB6 := Lib.hid (HB5.out.trans (hb6.mono (by have := HB5.out.size; omega)))
        clear hw6 hb6
        obtain ⟨s6, s0, hl, hbits, hnew⟩ := hh6.bits
        have SK := Lib.hid (set_only B s6 N S' (x0 : Int) true w6 hbits (by have := hm6.lt; omega))
        have HNEW := Lib.hid hnew
        have S0 := Lib.hid s0
        have HL6 := Lib.hid hL6; have HM6 := Lib.hid hm6
        clear hL6 hm6 hbits hnew hx6 hh6
        go_wp2_with fail
        refine SK.out.mono ?_
        rintro e w7 ⟨rfl, hb7, hg7, hk7, ho7⟩
        have hst := (Stays.bits S0.out hg7.size hk7 ho7).2 C HL6.out
        have HH7 := Lib.hid (HNEW.out w7 _ hb7 hk7)
        have HL7 := Lib.hid hst.1
        have HM7 := Lib.hid (HM6.out.block (w' := w7) (hst.2 C (Nat.le_refl _) HM6.out.lt))
        have HB7 := Lib.hid (HB6.out.trans hg7)
        clear hst hb7 hg7 hk7 ho7 s0 hl
        go_wp2_with fail
        go_roundg (free + 2 - (x0 + 2 + nc))
        case measure => rw [HGA.out]; omega
        case rel => exact ⟨x0 + 2 + nc, n + 1, l2, _, updB F vh, rfl, by omega, by omega, by go_num, HCH.out, HQ2.out, (fun y hy hne => by
          by_cases e : hH (M (y + 1)) = vh
          · exact absurd e (HQ1.out y hy (by rw [← e]; exact hne))
          · rw [updB_other e]; exact HFR.out y (List.mem_cons_of_mem _ hy) hne), HSET.out, HH7.out, HL7.out, HM7.out, HB7.out⟩
theorem laid_yes (B h N free : Nat) (l : List Nat) (M : Nat → Nat) (w : World) (H : HeapAt w B h N free (fun _ => false) M) (hB : B ≤ w.heap.size) (hc : Chain4 M free 2 l) :
    Calls Tryd.prog 57 #[.pointer (some ⟨h, 0, none⟩)] w fun e w' => e = .returned (.bool true) ∧ HeapAt w' B h N free (setAll N (fun _ => false) l) M ∧ Below B w w' :=
  laid_num B h N free l M w H hB (chain5_of hc).1 (chain5_of hc).2
end Go.Proofs.YtobajnodckiohaaDoor
namespace Go.Proofs.YtobajnodckiohaaDoor
open Go.RowKit
set_option linter.unusedVariables false
/-- the cells of memory that holds these words -/
def loadM (ws : List Nat) : Nat → Nat := fun j => if 2 ≤ j ∧ j < 2 + ws.length then ws.getD (j - 2) 0 else 0
theorem HeapAt.row {w : World} {B h N free : Nat} {S : Nat → Bool} {M : Nat → Nat} (H : HeapAt w B h N free S M) :
    ∃ (g : Nat) (cur : Array Value), w.cell? ⟨h, 0, none⟩ = some (.slice (some ⟨g, 0, none⟩) N N) ∧ B ≤ g ∧ h ≠ g ∧ w.heap[g]? = some (.cells cur 38 (0, 0)) ∧ cur.size = N ∧ (∀ i, i < N → cur[i]? = some (.int .u64 (M i : Int))) ∧
      ∀ (cur' : Array Value) (M' : Nat → Nat), cur'.size = N → (∀ i, i < N → cur'[i]? = some (.int .u64 (M' i : Int))) → (∀ i, M' i < 18446744073709551616) → M' 16777216 = M 16777216 → HeapAt (w.setRow g cur') B h N free S M' := by
  obtain ⟨g, s, h1, h2, h3, h3', h4, h5, h6, h7, h8⟩ := H
  obtain ⟨cur, hg, hs, hc⟩ := h6
  have hne : h ≠ g := fun e => by subst e; rw [h5] at hg; simp at hg
  refine ⟨g, cur, by simp [World.cell?, h5], h2, hne, hg, hs, hc, fun cur' M' hs' hc' hM' hML => ?_⟩
  have hk : KeepsBut 38 w (w.setRow g cur') := fun q c T fr hq hT => setRow_other w g q cur' (fun e => by subst e; rw [hg] at hq; simp at hq; exact hT hq.2.1.symm)
  exact ⟨g, s, h1, h2, h3, h3', h4, by rw [hML]; exact (hk h _ _ _ h5 (by decide)).trans h5, ⟨cur', setRow_heap w g cur cur' _ _ hg, hs', hc'⟩, hM', h8.keeps hk (by decide) (by decide)⟩
/-- another last number -/
def lastM (M : Nat → Nat) (L : Nat) : Nat → Nat := fun i => if i = 16777216 then L else M i
theorem lastM_same (M : Nat → Nat) : lastM M (M 16777216) = M := by
  funext i; unfold lastM; split
  · rename_i h; rw [h]
  · rfl
theorem lastM_cell {M : Nat → Nat} {L i : Nat} (h : i ≠ 16777216) : lastM M L i = M i := if_neg h
theorem lastM_last (M : Nat → Nat) (L : Nat) : lastM M L 16777216 = L := if_pos rfl
theorem HeapAt.lastN {w : World} {B h N free : Nat} {S : Nat → Bool} {M : Nat → Nat} (H : HeapAt w B h N free S M) :
    w.cell? ⟨h, 3, none⟩ = some (.int .u32 (M 16777216 : Int)) ∧ w.frozen? ⟨h, 3, none⟩ = false ∧ h < w.heap.size ∧ B ≤ h ∧ ∀ L : Nat, L < 18446744073709551616 → HeapAt (w.setCell ⟨h, 3, none⟩ (.int .u32 (L : Int))) B h N free S (lastM M L) := by
  obtain ⟨g, s, h1, h2, h3, h3', h4, h5, h6, h7, h8⟩ := H
  have hl := (Array.getElem?_eq_some_iff.1 h5).1
  refine ⟨by simp [World.cell?, h5], by unfold World.frozen?; rw [h5]; rfl, hl, h1, fun L hL => ?_⟩
  have hk := (KeepsBut.refl 72 w).setCell (a := ⟨h, 3, none⟩) (u := .int .u32 (L : Int)) ⟨_, _, h5⟩
  refine ⟨g, s, h1, h2, h3, h3', h4, ?_, (hk.row h6 (by decide)).congr fun i hi => ?_, fun i => ?_, h8.keeps hk (by decide) (by decide)⟩
  · rw [lastM_last]; exact heap_setCell_same w h 3 _ _ _ h5
  · rw [lastM_cell (by omega)]
  · unfold lastM; split
    · exact hL
    · exact h7 i
theorem loadM_last {ws : List Nat} (h : 2 + ws.length ≤ 16777216) : loadM ws 16777216 = 0 := by unfold loadM; rw [if_neg (by omega)]
theorem load_cell (ws : List Nat) (N : Nat) (cur : Array Value) (hs : cur.size = N) (hc : ∀ i, i < N → cur[i]? = some (.int .u64 ((0 : Nat) : Int))) (hN : 2 + ws.length ≤ N) :
    (cur.toList.take 2 ++ (wordVals ws ++ cur.toList.drop (2 + (wordVals ws).length))).toArray.size = N ∧
    ∀ i, i < N → (cur.toList.take 2 ++ (wordVals ws ++ cur.toList.drop (2 + (wordVals ws).length))).toArray[i]? = some (.int .u64 (loadM ws i : Int)) := by
  have hl : cur.toList.length = N := by rw [Array.length_toList]; exact hs
  have hw := wordVals_length ws
  refine ⟨by simp [hl, hw]; omega, fun i hi => ?_⟩
  have hci : cur.toList[i]? = some (.int .u64 ((0 : Nat) : Int)) := by rw [Array.getElem?_toList]; exact hc i hi
  rw [List.getElem?_toArray]
  have ht : (cur.toList.take 2).length = 2 := by simp [hl]; omega
  unfold loadM
  by_cases h1 : i < 2
  · rw [List.getElem?_append_left (by omega), List.getElem?_take, if_pos h1, hci, if_neg (by omega)]
  · rw [List.getElem?_append_right (by omega), ht]
    by_cases h2 : i < 2 + ws.length
    · rw [List.getElem?_append_left (by omega), if_pos ⟨by omega, h2⟩]
      simp [wordVals, List.getElem?_map, List.getD_eq_getElem?_getD, List.getElem?_eq_getElem (show i - 2 < ws.length by omega)]
    · rw [List.getElem?_append_right (by omega), List.getElem?_drop, hw, if_neg (by omega), ← hci]
      congr 1; omega
set_option maxRecDepth 100000 in
set_option maxHeartbeats 1600000 in
theorem load_num (N L : Nat) (v : Value) (ws l : List Nat) (w : World) (hv : WordsAt w v ws) (hsm : SmallW ws) (h0 : 16 ≤ N) (h1 : N ≤ 2000) (hp : 0 < ws.length) (hl : 2 + ws.length ≤ N) (hL : L < 16777216) (hc : Chain5 (lastM (loadM ws) L) (2 + ws.length) 2 l) (hu : UniqH (lastM (loadM ws) L) l) :
    Calls Tryd.prog 34 #[.int .i64 (N : Int), .int .u32 (L : Int), v] w fun e w' => ∃ h, e = .returned (.tuple #[.pointer (some ⟨h, 0, none⟩), .int .i64 0]) ∧ HeapAt w' w.heap.size h N (2 + ws.length) (setAll N (fun _ => false) l) (lastM (loadM ws) L) ∧ Below w.heap.size w w' := by
  have NW := Lib.hid (new_yes N h0 (by omega) w)
  have HSM := Lib.hid hsm
  have HC := Lib.hid hc
  have HUQ := Lib.hid hu
  clear hu
  obtain ⟨a, cap, rfl, k1, k2, k3, k4⟩ := hv
  have hor := hp
  obtain ⟨b, o, rfl, kc⟩ : ∃ b o, a = some ⟨b, o, none⟩ ∧ ∀ j, j < (wordVals ws).length → w.cell? ⟨b, o + j, none⟩ = (wordVals ws)[j]? := by
    rcases k3 with k3 | k3
    · exfalso
      have := wordVals_length ws
      rw [k3] at this
      simp at this
      omega
    · exact k3
  have KR := Lib.hid (show RowAt w (some ⟨b, o, none⟩) (wordVals ws) from Or.inr ⟨b, o, rfl, kc⟩)
  clear hc hsm k3 k4 kc
  unfold maxLen at k2
  have hN2 : ¬ N = 2 := by omega
  have hN3 : ¬ ((N : Int) - 2 < ws.length) := by omega
  have hN4 : ((N - 2 : Nat) : Int) = (N : Int) - 2 := by omega
  go_enter Tryd.func34, Tryd.ntmps34
  go_wp2_with fail
  refine NW.out.mono ?_
  rintro e w1 ⟨h, rfl, hh1, hg1⟩
  have FR := free_any w.heap.size h N 2 (fun _ => false) (fun _ => 0) w1 hh1
  rw [hN4] at FR
  have FRH := Lib.hid FR
  have HH1 := Lib.hid hh1; have HB1 := Lib.hid hg1
  clear hh1 hg1 FR hN4
  go_wp2_with fail
  refine FRH.out.mono ?_
  rintro e w2 ⟨rfl, hg2⟩
  have HB2 := Lib.hid (HB1.out.trans (hg2.mono HB1.out.size))
  have HH2 := Lib.hid (HH1.out.later hg2)
  have KR2 := Lib.hid (KR.out.later HB2.out)
  clear hg2
  obtain ⟨g, cur, c0, hBg, hhg, hgc, hcs, hcc, hset⟩ := HH2.out.row
  obtain ⟨lc1, lc2⟩ := load_cell ws N cur hcs hcc hl
  have HSET := Lib.hid (hset _ (loadM ws) lc1 lc2 (fun i => by
    unfold loadM
    split
    · rw [List.getD_eq_getElem?_getD]
      by_cases hi : i - 2 < ws.length
      · rw [List.getElem?_eq_getElem hi]; exact HSM.out _ (List.getElem_mem _)
      · omega
    · omega) (loadM_last (by omega)))
  have hwl := wordVals_length ws
  have hcp : ∀ ty, (Builtin.copy_ #[44, 44] ty #[.slice (some ⟨g, 2, none⟩) (N - 2) (N - 2), .slice (some ⟨b, o, none⟩) ws.length cap]).run Tryd.prog w2 = .ok (goInt (wordVals ws).length) (w2.setRow g (cur.toList.take 2 ++ wordVals ws ++ cur.toList.drop (2 + (wordVals ws).length)).toArray) := fun ty =>
    run_copy_row Tryd.prog w2 _ _ ty 38 g 2 (N - 2) (N - 2) ⟨b, o, none⟩ ws.length cap cur 38 (wordVals ws) Tryd.underlying44 (by kernel_rfl) hgc (by rw [hwl]; show _ = min _ _; omega) (RowAt.add KR2.out) (by rw [hwl, hcs]; exact hl) (by intro u hu; simp [wordVals] at hu; obtain ⟨x, -, rfl⟩ := hu; rfl)
  rw [List.append_assoc] at hcp
  obtain ⟨X, hX⟩ : ∃ X, X = (cur.toList.take 2 ++ (wordVals ws ++ cur.toList.drop (2 + (wordVals ws).length))).toArray := ⟨_, rfl⟩
  rw [← hX] at HSET hcp
  rw [hwl] at hcp
  have hgl := (Array.getElem?_eq_some_iff.1 hgc).1
  obtain ⟨w3, hw3⟩ : ∃ w3, w3 = w2.setRow g X := ⟨_, rfl⟩
  rw [← hw3] at HSET hcp
  have HB3 := Lib.hid (show Below w.heap.size w w3 by rw [hw3]; exact below_setRow HB2.out hBg X)
  clear lc1 lc2 hset hcc hgc hX hwl hw3
  go_upto_region 6 with fail
  go_upto_region 7 with fail
  all_goals try (exfalso; go_light; omega)
  obtain ⟨f1, fz1, hl3, hBh, hfr⟩ := HSET.out.freed
  obtain ⟨f3, fz3, -, -, -⟩ := HSET.out.lastN
  have hh4 := hfr (2 + ws.length) hl
  rw [show ((2 + ws.length : Nat) : Int) = 2 + (ws.length : Int) by omega] at hh4
  have HH5 := Lib.hid (hh4.lastN.2.2.2.2 L (by omega))
  have hlB := HB3.out.size
  have HB5 := Lib.hid ((HB3.out.setCell (p := ⟨h, 1, none⟩) hBh (.int .i64 (2 + (ws.length : Int)))).setCell (p := ⟨h, 3, none⟩) hBh (.int .u32 (L : Int)))
  clear hfr hh4 hcp HSET
  go_upto_region 8 with fail
  generalize hw5 : (w3.setCell ⟨h, 1, none⟩ (.int .i64 (2 + (ws.length : Int)))).setCell ⟨h, 3, none⟩ (.int .u32 (L : Int)) = w5 at *
  have LD := Lib.hid (laid_num w.heap.size h N (2 + ws.length) l (lastM (loadM ws) L) w5 HH5.out HB5.out.size HC.out HUQ.out)
  clear f1 fz1 f3 fz3 hw5
  go_wp2_with fail
  refine LD.out.mono ?_
  rintro e w6 ⟨rfl, hh6, hg6⟩
  have HH6 := Lib.hid hh6
  have HB6 := Lib.hid (HB5.out.trans hg6)
  clear hh6 hg6
  go_wp2_with fail
  exact bodyPost_ret (v := .tuple #[.pointer (some ⟨h, 0, none⟩), .int .i64 0]) (by simp [results, Tryd.results34, go_sem]) rfl ⟨h, rfl, HH6.out, HB6.out⟩
theorem load_yes (N : Nat) (v : Value) (ws l : List Nat) (w : World) (hv : WordsAt w v ws) (hsm : SmallW ws) (h0 : 16 ≤ N) (h1 : N ≤ 2000) (hp : 0 < ws.length) (hl : 2 + ws.length ≤ N) (hc : Chain4 (loadM ws) (2 + ws.length) 2 l) :
    Calls Tryd.prog 34 #[.int .i64 (N : Int), .int .u32 0, v] w fun e w' => ∃ h, e = .returned (.tuple #[.pointer (some ⟨h, 0, none⟩), .int .i64 0]) ∧ HeapAt w' w.heap.size h N (2 + ws.length) (setAll N (fun _ => false) l) (loadM ws) ∧ Below w.heap.size w w' := by
  have e : lastM (loadM ws) 0 = loadM ws := by have := lastM_same (loadM ws); rw [loadM_last (by omega)] at this; exact this
  have := load_num N 0 v ws l w hv hsm h0 h1 hp hl (by omega) (by rw [e]; exact (chain5_of hc).1) (by rw [e]; exact (chain5_of hc).2)
  rw [e] at this
  exact this
end Go.Proofs.YtobajnodckiohaaDoor
