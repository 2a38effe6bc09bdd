/- Objects that stand one behind the other: lay finds where they begin. Load: words become memory, where objects stand one behind the other. -/
import Derived.Test.YtibopjjicfiimaaGreatDoorLayC
import Derived.Maps.Own
import Derived.BigQuiet
import Derived.Laws.CopyOwn
namespace Go.Proofs.YtibopjjicfiimaaGreatDoor
open Go.RowKit
set_option linter.unusedVariables false
/-- how many words follow the head at a place -/
def cellsM (M : Nat → Nat) (a : Nat) : Nat := (cellsZ (M a) (hK (M (a + 1))) (hS (M (a + 1))) 0).toNat
/-- an object stands there, without a number of its own -/
def StandsAt (M : Nat → Nat) (a : Nat) : Prop :=
  UnOK (M a) (M (a + 1)) ∧ hH (M (a + 1)) = 0 ∧ (hK (M (a + 1)) = 2 → 0 < hS (M (a + 1)) % 8 → M (a + 2 + cellsM M a - 1) / 2 ^ (8 * (hS (M (a + 1)) % 8).toNat) = 0)
/-- objects one behind the other, up to the first free cell -/
def Chain4 (M : Nat → Nat) (free : Nat) : Nat → List Nat → Prop
  | a, [] => a = free
  | a, x :: l => x = a ∧ StandsAt M a ∧ Chain4 M free (a + 2 + cellsM M a) l
theorem Chain4.le {M : Nat → Nat} {free : Nat} : ∀ {l : List Nat} {a : Nat}, Chain4 M free a l → a ≤ free
  | [], a, h => Nat.le_of_eq h
  | x :: l, a, ⟨_, _, h⟩ => by have := Chain4.le h; omega
def setAll (N : Nat) (S : Nat → Bool) : List Nat → Nat → Bool
  | [] => S
  | x :: l => setAll N (setS N S (x : Int) true) l
theorem setAll_iff (N : Nat) : ∀ (l : List Nat) (S : Nat → Bool) (a : Nat), (∀ x ∈ l, x < N) → (setAll N S l a = true ↔ a ∈ l ∨ S a = true)
  | [], S, a, _ => by simp [setAll]
  | x :: l, S, a, h => by
    rw [setAll, setAll_iff N l _ a fun y hy => h y (List.mem_cons_of_mem _ hy), setT N x S (h x (List.mem_cons_self)) a, List.mem_cons]
    constructor
    · rintro (h | h | h)
      · exact Or.inl (Or.inr h)
      · exact Or.inl (Or.inl h)
      · exact Or.inr h
    · rintro ((h | h) | h)
      · exact Or.inr (Or.inl h)
      · exact Or.inl h
      · exact Or.inr (Or.inr h)
theorem cellsM_eq {M : Nat → Nat} {a : Nat} : cellsZ (M a) (hK (M (a + 1))) (hS (M (a + 1))) 0 = (cellsM M a : Int) := by
  have := (cellsZ_bd (M a) (hK (M (a + 1))) (hS (M (a + 1))) 0).1
  unfold cellsM; omega
/-- the cells of memory's own block -/
theorem HeapAt.all {w : World} {B h N free : Nat} {S : Nat → Bool} {M : Nat → Nat} (H : HeapAt w B h N free S M) :
    ∃ g s, w.cell? ⟨h, 0, none⟩ = some (.slice (some ⟨g, 0, none⟩) N N) ∧ w.cell? ⟨h, 1, none⟩ = some (.int .i64 (free : Int)) ∧ w.cell? ⟨h, 2, none⟩ = some (.pointer (some ⟨s, 0, none⟩)) ∧ w.cell? ⟨h, 3, none⟩ = some (.int .u32 0) ∧
      h < w.heap.size ∧ g < w.heap.size ∧ free ≤ N ∧ N ≤ 16777216 ∧ (∀ i, i < N → w.cell? ⟨g, i, none⟩ = some (.int .u64 (M i : Int))) ∧ ∀ i, M i < 18446744073709551616 := by
  obtain ⟨g, s, h1, h2, h3, h3', h4, h5, h6, h7, h8⟩ := H
  exact ⟨g, s, by simp [World.cell?, h5], by simp [World.cell?, h5], by simp [World.cell?, h5], by simp [World.cell?, h5], (Array.getElem?_eq_some_iff.1 h5).1, h6.lt, h4, h3, fun i hi => h6.cell hi, h7⟩
theorem key_u32 : Go.Maps.Keyed Tryz.prog 27 := Go.Maps.int_keyed Tryz.underlying27
set_option maxRecDepth 100000 in
set_option maxHeartbeats 1600000 in
theorem laid_yes (B h N free : Nat) (l : List Nat) (M : Nat → Nat) (w : World) (H : HeapAt w B h N free (fun _ => false) M) (hB : B ≤ w.heap.size) (hc : Chain4 M free 2 l) :
    Calls Tryz.prog 52 #[.pointer (some ⟨h, 0, none⟩)] w fun e w' => e = .returned (.bool true) ∧ HeapAt w' B h N free (setAll N (fun _ => false) l) M ∧ Below B w w' := by
  have HH := Lib.hid H
  have HLT := Lib.hid H.lt
  have HC := Lib.hid hc
  clear H hc
  obtain ⟨C, hC⟩ : ∃ C, C = w.heap.size := ⟨_, rfl⟩
  rw [← hC] at HLT hB
  have mk := fun W : World => run_makeMap (P := Tryz.prog) 164 W
  go_enter Tryz.func52, Tryz.ntmps52
  go_upto_region 2 with fail
  obtain ⟨w1, hw1⟩ : ∃ w1, w1 = w.alloc (.map #[] 0) := ⟨_, rfl⟩
  rw [← hw1, ← hC]
  have hb1 : Below w.heap.size w w1 := by rw [hw1]; exact (Below.refl _ w).alloc (Nat.le_refl _) _
  have HM1 := Lib.hid (show w1.ownsMap Tryz.prog 27 (plainElem (H := Unit) Tryz.prog 4) C 0 (.map []) from by rw [hw1, hC]; exact World.ownsMap_made w _ _ _)
  have HH1 := Lib.hid (HH.out.later hb1)
  have HL1 := Lib.hid (HLT.out.far fun q hq => hb1.block q (by omega))
  have HB1 := Lib.hid (hb1.mono (by omega) : Below B w w1)
  have HCW := Lib.hid hC
  clear hw1 hb1 hC
  go_wp2_with fail
  go_loopg [4] free (fun gg s4 wr => ∃ (a n : Nat) (l' : List Nat) (S' : Nat → Bool) (D : DataW Unit), gg = free + 2 - a ∧ 2 ≤ a ∧ n ≤ a ∧ s4 = .int .i64 (a : Int) ∧ Chain4 M free a l' ∧ setAll N S' l' = setAll N (fun _ => false) l ∧ HeapAt wr B h N free S' M ∧ HeapLt wr h C ∧ wr.ownsMap Tryz.prog 27 (plainElem (H := Unit) Tryz.prog 4) C n D ∧ Below B w wr)
  case atStart => exact ⟨2, 0, l, _, .map [], by omega, Nat.le_refl _, by omega, rfl, HC.out, rfl, HH1.out, HL1.out, HM1.out, HB1.out⟩
  case round =>
    obtain ⟨a, n, l', S', D, hga, ha2, hna, rfl, hch, hset, hh, hlt, hm, hb⟩ := hrel
    have HGA := Lib.hid hga; have HSET := Lib.hid hset; have HHR := Lib.hid hh; have HLR := Lib.hid hlt; have HMR := Lib.hid hm; have HBR := Lib.hid hb
    have hszr := hb.size
    obtain ⟨g, s, c0, c1, c2, c3, hl, hgl, hfN, hN, hcell, hMl⟩ := hh.all
    cases l' with
    | nil =>
      have hch : a = free := hch
      subst hch
      clear hga hset hh hlt hm hb hcell
      go_wp2_with fail
      go_ret
      rw [show setAll N S' [] = S' from rfl] at HSET
      rw [← HSET.out]
      exact ⟨rfl, HHR.out, HBR.out⟩
    | cons x0 l2 =>
      obtain ⟨rfl, ⟨hun, hh0, htail⟩, hch2⟩ := hch
      have hle := hch2.le
      have HCH := Lib.hid hch2; have HTL := Lib.hid htail
      have k0 := hcell x0 (by omega)
      have k1 := hcell (x0 + 1) (by omega)
      have m0 := hMl x0
      have m1 := hMl (x0 + 1)
      have U := Lib.hid (fun W => unpack_yes (M x0) (M (x0 + 1)) (by omega) (by omega) (by omega) (by omega) hun W)
      have CL := Lib.hid (fun W => cells_any (M x0) (hK (M (x0 + 1))) (hS (M (x0 + 1))) 0 (hM (M (x0 + 1))) (by omega) (by omega) W)
      rw [cellsM_eq] at CL
      rw [hh0] at U
      obtain ⟨-, -, s1, kk1, -⟩ := hun
      have s0 : 0 ≤ hS (M (x0 + 1)) := by unfold hS; omega
      have kk0 : 0 ≤ hK (M (x0 + 1)) := by unfold hK; omega
      clear hga hset hh hlt hm hb hcell hMl hch2 htail hh0
      obtain ⟨nc, hnc⟩ : ∃ nc, cellsM M x0 = nc := ⟨_, rfl⟩
      rw [hnc] at CL HCH HTL hle
      generalize hK (M (x0 + 1)) = vk at *
      obtain ⟨vs, hvs⟩ : ∃ vs : Nat, hS (M (x0 + 1)) = vs := ⟨(hS (M (x0 + 1))).toNat, by omega⟩
      rw [hvs] at U CL HTL s1 s0
      clear hvs
      generalize hM (M (x0 + 1)) = vm at *
      have har : ∀ W : World, (Instr.arrayAt 141 (.slice (some ⟨g, x0, none⟩) 2 (N - x0))).run Tryz.prog W = .ok (.pointer (some ⟨g, x0, none⟩)) W := fun W => run_arrayAt W 141 39 2 _ _ _ Tryz.underlying141 (Nat.le_refl _)
      go_wp2_with fail
      all_goals try (exfalso; go_light; omega)
      refine (U.out _).mono ?_
      rintro e w1 ⟨rfl, hg1⟩
      have HB1 := Lib.hid hg1
      have hz1 := hg1.size
      clear hg1 c0 c1 c2 c3 k0 k1 hl hgl
      go_upto_region 7 with fail
      obtain ⟨w2, hw2⟩ : ∃ w2, w2 = w1.alloc (.cells #[.int .u64 (M x0 : Int), .int .i64 vk, .int .i64 (vs : Int), .int .u32 0, .bool vm] 119) := ⟨_, rfl⟩
      rw [← hw2]
      have hx2 : w2.heap[w1.heap.size]? = some (.cells #[.int .u64 (M x0 : Int), .int .i64 vk, .int .i64 (vs : Int), .int .u32 0, .bool vm] 119 (0, 0)) := by rw [hw2]; exact heap_alloc_new w1 _
      have hb2 : Below w1.heap.size w1 w2 := by rw [hw2]; exact (Below.refl _ w1).alloc (Nat.le_refl _) _
      have HB2 := Lib.hid (HB1.out.trans (hb2.mono hz1))
      have hl2 := (Array.getElem?_eq_some_iff.1 hx2).1
      have v0 := cellO hx2 0
      have v1 := cellO hx2 1
      have v2 := cellO hx2 2
      have v3 := cellO hx2 3
      have v4 := cellO hx2 4
      simp at v0 v1 v2 v3 v4
      have HX2 := Lib.hid hx2
      clear hw2 hx2 hb2
      go_wp2_with fail
      refine (CL.out _).mono ?_
      rintro e w3 ⟨rfl, hg3⟩
      have hx3 := (hg3.block _ hl2).trans HX2.out
      have HB3 := Lib.hid (HB2.out.trans (hg3.mono HB2.out.size))
      have hz3 := hg3.size
      have hl3 := (Array.getElem?_eq_some_iff.1 hx3).1
      clear v0 v1 v2 v3 v4
      have v0 := cellO hx3 0
      have v1 := cellO hx3 1
      have v2 := cellO hx3 2
      have v3 := cellO hx3 3
      have v4 := cellO hx3 4
      simp at v0 v1 v2 v3 v4
      have HX3 := Lib.hid hx3
      have HH3 := Lib.hid (HHR.out.later HB3.out)
      obtain ⟨g3, s3, c0, c1, c2, c3, hl, hgl, -, -, hcell, -⟩ := HH3.out.all
      clear hg3 hx3 hcell
      have q1 : ¬ ((free : Int) - x0 - 2 < nc) := by omega
      go_upto_region 8 with fail
      have qd : decide ((free : Int) - x0 - 2 < nc) = false := decide_eq_false (by omega)
      go_quiet (fail)
      generalize hw4 : w3.drewN _ = w4
      have hb4 : Below w3.heap.size w3 w4 := by rw [← hw4]; exact ⟨rfl, rfl, rfl, Nat.le_refl _, fun _ _ => rfl⟩
      have hx4 := (hb4.block _ hl3).trans HX3.out
      have HB4 := Lib.hid (HB3.out.trans (hb4.mono HB3.out.size))
      clear hw4 c0 c1 c2 c3 v0 v1 v2 v3 v4
      have hz4 := hb4.size
      have hl4 := (Array.getElem?_eq_some_iff.1 hx4).1
      have v0 := cellO hx4 0
      have v1 := cellO hx4 1
      have v2 := cellO hx4 2
      have v3 := cellO hx4 3
      have v4 := cellO hx4 4
      simp at v0 v1 v2 v3 v4
      have HX4 := Lib.hid hx4
      have HM4 := Lib.hid (HMR.out.kept (w' := w4) (row := none) ⟨HB4.out.os, HB4.out.tape, HB4.out.output, HB4.out.size, fun k hk _ => HB4.out.block k hk⟩ (by simp))
      have HCL := Lib.hid HMR.out.lt
      clear hx4 hb4 hl hgl
      obtain ⟨g4, s4, c0, c1, c2, c3, hl, hgl, -, -, hcell, -⟩ := (HHR.out.later HB4.out).all
      clear hcell
      go_wp2_with (at_mapUpdate; refine wpList_mapUpdate_own _ rfl _ _ _ 164 rfl 27 4 key_u32 Tryz.underlying164 _ C n D rfl HM4.out (by unfold maxLen; omega) _ _ _ rfl rfl (Go.Maps.keyOf_int_mk Tryz.underlying27 (by decide)) _ [] (plainElem_bool Tryz.underlying4 true) ?_)
      intro w5 hown5 hgrow5
      have hcl := HCL.out
      have hx5 := (hgrow5.block w1.heap.size hl4 (fun e => by injection e with e; omega)).trans HX4.out
      have hfar5 : ∀ q, q < C → w5.heap[q]? = wr.heap[q]? := fun q hq => (hgrow5.block q (by omega) (fun e => by injection e with e; omega)).trans (HB4.out.block q (by omega))
      have hz5 := hgrow5.size
      have HH5 := Lib.hid (HHR.out.far HLR.out hfar5)
      have HL5 := Lib.hid (HLR.out.far hfar5)
      have HB5 := Lib.hid ((HBR.out.trans (HB4.out.mono (by omega))).grown hgrow5 (by omega) (fun k e => by injection e with e; omega))
      have HM5 := Lib.hid hown5
      have HX5 := Lib.hid hx5
      clear hgrow5 hown5 hfar5 v0 v1 v2 v3 v4 c0 c1 c2 c3 hl hgl HX4 HM4
      have hl5 := (Array.getElem?_eq_some_iff.1 hx5).1
      have v0 := cellO hx5 0
      have v1 := cellO hx5 1
      have v2 := cellO hx5 2
      have v3 := cellO hx5 3
      have v4 := cellO hx5 4
      simp at v0 v1 v2 v3 v4
      clear hx5
      obtain ⟨g5, s5, c0, c1, c2, c3, hl, hgl, -, -, hcell, -⟩ := HH5.out.all
      have HCE := Lib.hid hcell
      clear hcell
      go_upto_region 12 with fail
      all_goals try (exfalso; go_light; omega)
      obtain ⟨r, hr⟩ : ∃ r : Nat, (vs : Int) % 8 = (r : Int) := ⟨vs % 8, by omega⟩
      rw [hr]
      rw [hr, Int.toNat_natCast] at HTL
      have hr8 : r < 8 := by omega
      clear hr
      go_cut [101] from 78 to 101 (fun s101 wx => s101 = .bool false ∧ ∃ k, wx = w5.drewN k)
      case first =>
        by_cases hk2 : vk = 2
        · subst hk2
          by_cases hr0 : r = 0
          · subst hr0
            go_wp2_with fail
            all_goals go_meet
            exact ⟨rfl, 0, rfl⟩
          · have hr1 : decide ((0 : Int) < (r : Int)) = true := decide_eq_true (by omega)
            have hzz := HTL.out rfl (by omega)
            obtain ⟨q, hq⟩ : ∃ q, x0 + 2 + nc - 1 = q := ⟨_, rfl⟩
            rw [hq] at hzz
            have ce := HCE.out q (by omega)
            have hqz : (x0 : Int) + 2 + nc - 1 = q := by omega
            have hz : (M q : Int) / 2 ^ (8 * r) = 0 := by exact_mod_cast hzz
            clear hzz
            go_wp2_with fail
            all_goals try (exfalso; go_light; omega)
            all_goals go_meet
            all_goals first | exact ⟨rfl, 0, rfl⟩ | trace_state
        · have hk3 : decide (vk = 2) = false := decide_eq_false hk2
          have hk4 : (vk == 2) = false := by simpa using hk2
          go_wp2_with fail
          all_goals go_meet
          exact ⟨rfl, 0, rfl⟩
      case rest =>
        obtain ⟨rfl, k6, hwc⟩ := hcut
        rw [hwc]
        clear hwc v0 v1 v2 v3 v4 c0 c1 c2 c3 hl hgl
        generalize hw6 : w5.drewN k6 = w6
        have hb6 : Below w5.heap.size w5 w6 := by rw [← hw6]; exact ⟨rfl, rfl, rfl, Nat.le_refl _, fun _ _ => rfl⟩
        have hx6 := (hb6.block _ hl5).trans HX5.out
        have hL6 := HL5.out.far (w' := w6) fun q hq => hb6.block q (by have := HM5.out.lt; omega)
        have hh6 := HH5.out.later hb6
        have hm6 := HM5.out.kept (w' := w6) (row := none) ⟨hb6.os, hb6.tape, hb6.output, hb6.size, fun k hk _ => hb6.block k hk⟩ (by simp)
        have HB6 := Lib.hid (HB5.out.trans (hb6.mono (by have := HB5.out.size; omega)))
        clear hw6 hb6
        obtain ⟨s6, s0, hl, hbits, hnew⟩ := hh6.bits
        have SK := Lib.hid (set_only B s6 N S' (x0 : Int) true w6 hbits (by have := hm6.lt; omega))
        have HNEW := Lib.hid hnew
        have S0 := Lib.hid s0
        have HL6 := Lib.hid hL6; have HM6 := Lib.hid hm6
        clear hL6 hm6 hbits hnew hx6 hh6
        go_wp2_with fail
        refine SK.out.mono ?_
        rintro e w7 ⟨rfl, hb7, hg7, hk7, ho7⟩
        have hst := (Stays.bits S0.out hg7.size hk7 ho7).2 C HL6.out
        have HH7 := Lib.hid (HNEW.out w7 _ hb7 hk7)
        have HL7 := Lib.hid hst.1
        have HM7 := Lib.hid (show w7.ownsMap Tryz.prog 27 (plainElem (H := Unit) Tryz.prog 4) C (n + 1) _ by
          have hlt := HM6.out.lt
          obtain ⟨es, clock, hb, F, hs, hD⟩ := HM6.out
          exact ⟨es, clock, (hst.2 C (Nat.le_refl _) hlt).trans hb, F, hs, hD⟩)
        have HB7 := Lib.hid (HB6.out.trans hg7)
        clear hst hb7 hg7 hk7 ho7 s0 hl
        go_wp2_with fail
        go_roundg (free + 2 - (x0 + 2 + nc))
        case measure => rw [HGA.out]; omega
        case rel => exact ⟨x0 + 2 + nc, n + 1, l2, _, _, rfl, by omega, by omega, by go_num, HCH.out, HSET.out, HH7.out, HL7.out, HM7.out, HB7.out⟩
end Go.Proofs.YtibopjjicfiimaaGreatDoor
namespace Go.Proofs.YtibopjjicfiimaaGreatDoor
open Go.RowKit
set_option linter.unusedVariables false
/-- the cells of memory that holds these words -/
def loadM (ws : List Nat) : Nat → Nat := fun j => if 2 ≤ j ∧ j < 2 + ws.length then ws.getD (j - 2) 0 else 0
theorem HeapAt.row {w : World} {B h N free : Nat} {S : Nat → Bool} {M : Nat → Nat} (H : HeapAt w B h N free S M) :
    ∃ (g : Nat) (cur : Array Value), w.cell? ⟨h, 0, none⟩ = some (.slice (some ⟨g, 0, none⟩) N N) ∧ B ≤ g ∧ h ≠ g ∧ w.heap[g]? = some (.cells cur 39 (0, 0)) ∧ cur.size = N ∧ (∀ i, i < N → cur[i]? = some (.int .u64 (M i : Int))) ∧
      ∀ (cur' : Array Value) (M' : Nat → Nat), cur'.size = N → (∀ i, i < N → cur'[i]? = some (.int .u64 (M' i : Int))) → (∀ i, M' i < 18446744073709551616) → HeapAt (w.setRow g cur') B h N free S M' := by
  obtain ⟨g, s, h1, h2, h3, h3', h4, h5, h6, h7, h8⟩ := H
  obtain ⟨cur, hg, hs, hc⟩ := h6
  have hne : h ≠ g := fun e => by subst e; rw [h5] at hg; simp at hg
  refine ⟨g, cur, by simp [World.cell?, h5], h2, hne, hg, hs, hc, fun cur' M' hs' hc' hM' => ?_⟩
  have hk : KeepsBut 39 w (w.setRow g cur') := fun q c T fr hq hT => setRow_other w g q cur' (fun e => by subst e; rw [hg] at hq; simp at hq; exact hT hq.2.1.symm)
  exact ⟨g, s, h1, h2, h3, h3', h4, (hk h _ _ _ h5 (by decide)).trans h5, ⟨cur', setRow_heap w g cur cur' _ _ hg, hs', hc'⟩, hM', h8.keeps hk (by decide) (by decide)⟩
theorem HeapAt.last0 {w : World} {B h N free : Nat} {S : Nat → Bool} {M : Nat → Nat} (H : HeapAt w B h N free S M) :
    w.cell? ⟨h, 3, none⟩ = some (.int .u32 0) ∧ w.frozen? ⟨h, 3, none⟩ = false ∧ HeapAt (w.setCell ⟨h, 3, none⟩ (.int .u32 0)) B h N free S M := by
  obtain ⟨g, s, h1, h2, h3, h3', h4, h5, h6, h7, h8⟩ := H
  have hl := (Array.getElem?_eq_some_iff.1 h5).1
  refine ⟨by simp [World.cell?, h5], by unfold World.frozen?; rw [h5]; rfl, ?_⟩
  have hk := (KeepsBut.refl 96 w).setCell (a := ⟨h, 3, none⟩) (u := .int .u32 0) ⟨_, _, h5⟩
  exact ⟨g, s, h1, h2, h3, h3', h4, heap_setCell_same w h 3 _ _ _ h5, hk.row h6 (by decide), h7, h8.keeps hk (by decide) (by decide)⟩
theorem load_cell (ws : List Nat) (N : Nat) (cur : Array Value) (hs : cur.size = N) (hc : ∀ i, i < N → cur[i]? = some (.int .u64 ((0 : Nat) : Int))) (hN : 2 + ws.length ≤ N) :
    (cur.toList.take 2 ++ (wordVals ws ++ cur.toList.drop (2 + (wordVals ws).length))).toArray.size = N ∧
    ∀ i, i < N → (cur.toList.take 2 ++ (wordVals ws ++ cur.toList.drop (2 + (wordVals ws).length))).toArray[i]? = some (.int .u64 (loadM ws i : Int)) := by
  have hl : cur.toList.length = N := by rw [Array.length_toList]; exact hs
  have hw := wordVals_length ws
  refine ⟨by simp [hl, hw]; omega, fun i hi => ?_⟩
  have hci : cur.toList[i]? = some (.int .u64 ((0 : Nat) : Int)) := by rw [Array.getElem?_toList]; exact hc i hi
  rw [List.getElem?_toArray]
  have ht : (cur.toList.take 2).length = 2 := by simp [hl]; omega
  unfold loadM
  by_cases h1 : i < 2
  · rw [List.getElem?_append_left (by omega), List.getElem?_take, if_pos h1, hci, if_neg (by omega)]
  · rw [List.getElem?_append_right (by omega), ht]
    by_cases h2 : i < 2 + ws.length
    · rw [List.getElem?_append_left (by omega), if_pos ⟨by omega, h2⟩]
      simp [wordVals, List.getElem?_map, List.getD_eq_getElem?_getD, List.getElem?_eq_getElem (show i - 2 < ws.length by omega)]
    · rw [List.getElem?_append_right (by omega), List.getElem?_drop, hw, if_neg (by omega), ← hci]
      congr 1; omega
set_option maxRecDepth 100000 in
set_option maxHeartbeats 1600000 in
theorem load_yes (N : Nat) (v : Value) (ws l : List Nat) (w : World) (hv : WordsAt w v ws) (hsm : SmallW ws) (h0 : 16 ≤ N) (h1 : N ≤ 6000) (hp : 0 < ws.length) (hl : 2 + ws.length ≤ N) (hc : Chain4 (loadM ws) (2 + ws.length) 2 l) :
    Calls Tryz.prog 20 #[.int .i64 (N : Int), .int .u32 0, v] w fun e w' => ∃ h, e = .returned (.tuple #[.pointer (some ⟨h, 0, none⟩), .int .i64 0]) ∧ HeapAt w' w.heap.size h N (2 + ws.length) (setAll N (fun _ => false) l) (loadM ws) ∧ Below w.heap.size w w' := by
  have NW := Lib.hid (new_yes N h0 (by omega) w)
  have HSM := Lib.hid hsm
  have HC := Lib.hid hc
  obtain ⟨a, cap, rfl, k1, k2, k3, k4⟩ := hv
  have hor := hp
  obtain ⟨b, o, rfl, kc⟩ : ∃ b o, a = some ⟨b, o, none⟩ ∧ ∀ j, j < (wordVals ws).length → w.cell? ⟨b, o + j, none⟩ = (wordVals ws)[j]? := by
    rcases k3 with k3 | k3
    · exfalso
      have := wordVals_length ws
      rw [k3] at this
      simp at this
      omega
    · exact k3
  have KR := Lib.hid (show RowAt w (some ⟨b, o, none⟩) (wordVals ws) from Or.inr ⟨b, o, rfl, kc⟩)
  clear hc hsm k3 k4 kc
  unfold maxLen at k2
  have hN2 : ¬ N = 2 := by omega
  have hN3 : ¬ ((N : Int) - 2 < ws.length) := by omega
  have hN4 : ((N - 2 : Nat) : Int) = (N : Int) - 2 := by omega
  go_enter Tryz.func20, Tryz.ntmps20
  go_wp2_with fail
  refine NW.out.mono ?_
  rintro e w1 ⟨h, rfl, hh1, hg1⟩
  have FR := free_any w.heap.size h N 2 (fun _ => false) (fun _ => 0) w1 hh1
  rw [hN4] at FR
  have FRH := Lib.hid FR
  have HH1 := Lib.hid hh1; have HB1 := Lib.hid hg1
  clear hh1 hg1 FR hN4
  go_wp2_with fail
  refine FRH.out.mono ?_
  rintro e w2 ⟨rfl, hg2⟩
  have HB2 := Lib.hid (HB1.out.trans (hg2.mono HB1.out.size))
  have HH2 := Lib.hid (HH1.out.later hg2)
  have KR2 := Lib.hid (KR.out.later HB2.out)
  clear hg2
  obtain ⟨g, cur, c0, hBg, hhg, hgc, hcs, hcc, hset⟩ := HH2.out.row
  obtain ⟨lc1, lc2⟩ := load_cell ws N cur hcs hcc hl
  have HSET := Lib.hid (hset _ (loadM ws) lc1 lc2 (fun i => by
    unfold loadM
    split
    · rw [List.getD_eq_getElem?_getD]
      by_cases hi : i - 2 < ws.length
      · rw [List.getElem?_eq_getElem hi]; exact HSM.out _ (List.getElem_mem _)
      · omega
    · omega))
  have hwl := wordVals_length ws
  have hcp : ∀ ty, (Builtin.copy_ #[40, 40] ty #[.slice (some ⟨g, 2, none⟩) (N - 2) (N - 2), .slice (some ⟨b, o, none⟩) ws.length cap]).run Tryz.prog w2 = .ok (goInt (wordVals ws).length) (w2.setRow g (cur.toList.take 2 ++ wordVals ws ++ cur.toList.drop (2 + (wordVals ws).length)).toArray) := fun ty =>
    run_copy_row Tryz.prog w2 _ _ ty 39 g 2 (N - 2) (N - 2) ⟨b, o, none⟩ ws.length cap cur 39 (wordVals ws) Tryz.underlying40 (by kernel_rfl) hgc (by rw [hwl]; show _ = min _ _; omega) (RowAt.add KR2.out) (by rw [hwl, hcs]; exact hl) (by intro u hu; simp [wordVals] at hu; obtain ⟨x, -, rfl⟩ := hu; rfl)
  rw [List.append_assoc] at hcp
  obtain ⟨X, hX⟩ : ∃ X, X = (cur.toList.take 2 ++ (wordVals ws ++ cur.toList.drop (2 + (wordVals ws).length))).toArray := ⟨_, rfl⟩
  rw [← hX] at HSET hcp
  rw [hwl] at hcp
  have hgl := (Array.getElem?_eq_some_iff.1 hgc).1
  obtain ⟨w3, hw3⟩ : ∃ w3, w3 = w2.setRow g X := ⟨_, rfl⟩
  rw [← hw3] at HSET hcp
  have HB3 := Lib.hid (show Below w.heap.size w w3 by rw [hw3]; exact below_setRow HB2.out hBg X)
  clear lc1 lc2 hset hcc hgc hX hwl hw3
  go_upto_region 6 with fail
  go_upto_region 7 with fail
  all_goals try (exfalso; go_light; omega)
  obtain ⟨f1, fz1, hl3, hBh, hfr⟩ := HSET.out.freed
  obtain ⟨f3, fz3, -⟩ := HSET.out.last0
  have hh4 := hfr (2 + ws.length) hl
  rw [show ((2 + ws.length : Nat) : Int) = 2 + (ws.length : Int) by omega] at hh4
  obtain ⟨-, -, hh5⟩ := hh4.last0
  have HH5 := Lib.hid hh5
  have hlB := HB3.out.size
  have HB5 := Lib.hid ((HB3.out.setCell (p := ⟨h, 1, none⟩) hBh (.int .i64 (2 + (ws.length : Int)))).setCell (p := ⟨h, 3, none⟩) hBh (.int .u32 0))
  clear hfr hh4 hh5 hcp HSET
  go_upto_region 8 with fail
  generalize hw5 : (w3.setCell ⟨h, 1, none⟩ (.int .i64 (2 + (ws.length : Int)))).setCell ⟨h, 3, none⟩ (.int .u32 0) = w5 at *
  have LD := Lib.hid (laid_yes w.heap.size h N (2 + ws.length) l (loadM ws) w5 HH5.out HB5.out.size HC.out)
  clear f1 fz1 f3 fz3 hw5
  go_wp2_with fail
  refine LD.out.mono ?_
  rintro e w6 ⟨rfl, hh6, hg6⟩
  have HH6 := Lib.hid hh6
  have HB6 := Lib.hid (HB5.out.trans hg6)
  clear hh6 hg6
  go_wp2_with fail
  exact bodyPost_ret (v := .tuple #[.pointer (some ⟨h, 0, none⟩), .int .i64 0]) (by simp [results, Tryz.results20, go_sem]) rfl ⟨h, rfl, HH6.out, HB6.out⟩
end Go.Proofs.YtibopjjicfiimaaGreatDoor
