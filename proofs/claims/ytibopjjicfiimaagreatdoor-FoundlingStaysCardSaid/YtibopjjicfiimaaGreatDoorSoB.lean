/- Memory read at any word: a head, a word, the bytes; what isn't there reads as nought. What the checks ask of an object: its words, its kind, its class, its text. -/
import Derived.Test.YtibopjjicfiimaaGreatDoorLoadF
import Derived.Test.YtibopjjicfiimaaGreatDoorCollB
import Derived.BigQuiet
namespace Go.Proofs.YtibopjjicfiimaaGreatDoor
open Go.RowKit
set_option linter.unusedVariables false
/-- what a head says at any word; of what is none, nought -/
def clsX (S : Nat → Bool) (M : Nat → Nat) (x : Nat) : Nat := if PtrIn S x = true then M (x / 2) else 0
def infX (S : Nat → Bool) (M : Nat → Nat) (x : Nat) : Nat := if PtrIn S x = true then M (x / 2 + 1) else 0
def kndX (S : Nat → Bool) (M : Nat → Nat) (x : Nat) : Int := hK (infX S M x)
def sizX (S : Nat → Bool) (M : Nat → Nat) (x : Nat) : Int := hS (infX S M x)
def mrkX (S : Nat → Bool) (M : Nat → Nat) (x : Nat) : Bool := hM (infX S M x)
/-- its words; of a raw one none -/
def wrdX (S : Nat → Bool) (M : Nat → Nat) (x : Nat) : List Nat := if PtrIn S x = true ∧ kndX S M x ≠ 2 then (List.range (sizX S M x).toNat).map fun i => M (x / 2 + 2 + i) else []
/-- a word of it -/
def getX (S : Nat → Bool) (M : Nat → Nat) (x i : Nat) : Nat := (wrdX S M x).getD i 0
/-- its bytes -/
def bytX (S : Nat → Bool) (M : Nat → Nat) (x : Nat) : List UInt8 := if PtrIn S x = true ∧ kndX S M x = 2 then rawL M (x / 2) (sizX S M x).toNat else []
theorem ptrIn_iff {S : Nat → Bool} {x : Nat} : PtrIn S x = true ↔ ∃ a, x = a * 2 ∧ a ≠ 0 ∧ a < 16777216 ∧ S a = true := by
  unfold PtrIn
  rw [Bool.and_eq_true, decide_eq_true_eq]
  constructor
  · rintro ⟨⟨h1, h2, h3⟩, h4⟩
    exact ⟨x / 2, by omega, by omega, by omega, h4⟩
  · rintro ⟨a, rfl, h1, h2, h3⟩
    exact ⟨⟨by omega, by omega, by omega⟩, by rw [show a * 2 / 2 = a by omega]; exact h3⟩
theorem getX_of {S : Nat → Bool} {M : Nat → Nat} {x i : Nat} (h1 : PtrIn S x = true) (h2 : kndX S M x ≠ 2) (h3 : (i : Int) < sizX S M x) : getX S M x i = M (x / 2 + 2 + i) := by
  unfold getX wrdX
  rw [if_pos ⟨h1, h2⟩, List.getD_eq_getElem?_getD, List.getElem?_map, List.getElem?_range (by omega)]; rfl
theorem wrdX_len (S : Nat → Bool) (M : Nat → Nat) (x : Nat) : (wrdX S M x).length = if PtrIn S x = true ∧ kndX S M x ≠ 2 then (sizX S M x).toNat else 0 := by
  unfold wrdX; split <;> simp
theorem getX_no {S : Nat → Bool} {M : Nat → Nat} {x i : Nat} (h : ¬ (PtrIn S x = true ∧ kndX S M x ≠ 2 ∧ (i : Int) < sizX S M x)) : getX S M x i = 0 := by
  have hs : 0 ≤ sizX S M x := by unfold sizX hS; omega
  have h1 := wrdX_len S M x
  unfold getX
  rw [List.getD_eq_getElem?_getD, List.getElem?_eq_none ?_]; rfl
  rw [h1]
  split
  · rename_i hc
    exact Nat.le_of_not_lt fun hh => h ⟨hc.1, hc.2, by omega⟩
  · exact Nat.zero_le _
set_option maxRecDepth 100000 in
theorem head_any (B h N free x : Nat) (S : Nat → Bool) (M : Nat → Nat) (w : World) (H : HeapAt w B h N free S M) (c : CollOK N S M) (hx : x < 18446744073709551616) :
    Calls Tryz.prog 56 #[.pointer (some ⟨h, 0, none⟩), .int .u64 (x : Int)] w fun e w' => e = .returned (.tuple #[.agg #[.int .u64 (clsX S M x : Int), .int .i64 (kndX S M x), .int .i64 (sizX S M x), .int .u32 (hH (infX S M x)), .bool (mrkX S M x)], .int .i64 (if PtrIn S x = true then 0 else 13)]) ∧ Below w.heap.size w w' := by
  by_cases hp : PtrIn S x = true
  · obtain ⟨a, rfl, h1, h2, h3⟩ := ptrIn_iff.1 hp
    have ho := c.obj a h3
    have hd := hHead_yes B h N free a S M w H (by omega) (by omega) h3 ho.2.2.1
    unfold clsX kndX sizX mrkX infX
    rw [if_pos hp, if_pos hp, if_pos hp, show a * 2 / 2 = a by omega, Int.natCast_mul]
    exact hd
  · have e0 : clsX S M x = 0 := if_neg hp
    have e1 : infX S M x = 0 := if_neg hp
    unfold kndX sizX mrkX
    rw [if_neg hp, e0, e1]
    have AT : ∀ W, Below w.heap.size w W → Calls Tryz.prog 78 #[.pointer (some ⟨h, 0, none⟩), .int .u64 (x : Int)] W fun e w' => ∃ z : Int, e = .returned (.tuple #[.int .i64 z, .bool false]) ∧ Below W.heap.size W w' := by
      intro W hW
      by_cases hc : x % 2 = 0 ∧ x ≠ 0 ∧ x < 33554432
      · have hS : S (x / 2) = false := by
          cases hs : S (x / 2) with
          | false => rfl
          | true => exact absurd (ptrIn_iff.2 ⟨x / 2, by omega, by omega, by omega, hs⟩) hp
        have h1 := hat_yes B h N free (x / 2) S M W (H.later hW) (by omega) (by omega)
        rw [show ((x / 2 : Nat) : Int) * 2 = (x : Int) by omega, hS] at h1
        exact h1.mono fun e w' hh => ⟨_, hh.1, hh.2⟩
      · exact (hat_no B h N free x S M W (H.later hW) hx (by omega)).mono fun e w' hh => ⟨_, hh.1, hh.2⟩
    have ATH := Lib.hid AT
    clear H c hx hp e0 e1 AT
    go_enter Tryz.func56, Tryz.ntmps56
    have HA := Lib.hid (show Below w.heap.size w (w.alloc (.cells #[.int .u64 0, .int .i64 0, .int .i64 0, .int .u32 0, .bool false] 119)) from (Below.refl _ w).alloc (Nat.le_refl _) _)
    go_wp2_with fail
    refine (ATH.out _ HA.out).mono ?_
    rintro e w1 ⟨z, rfl, hg⟩
    have hx2 : w1.heap[w.heap.size]? = some (.cells #[.int .u64 0, .int .i64 0, .int .i64 0, .int .u32 0, .bool false] 119 (0, 0)) := by
      rw [hg.block w.heap.size (by simp)]; exact heap_alloc_new w _
    have hlw : w.heap.size < w1.heap.size := (Array.getElem?_eq_some_iff.1 hx2).1
    have z0 : w1.cell? ⟨w.heap.size, 0, none⟩ = _ := cellO hx2 0
    have z1 : w1.cell? ⟨w.heap.size, 1, none⟩ = _ := cellO hx2 1
    have z2 : w1.cell? ⟨w.heap.size, 2, none⟩ = _ := cellO hx2 2
    have z3 : w1.cell? ⟨w.heap.size, 3, none⟩ = _ := cellO hx2 3
    have z4 : w1.cell? ⟨w.heap.size, 4, none⟩ = _ := cellO hx2 4
    have y : ∀ j, w1.frozen? ⟨w.heap.size, j, none⟩ = false := fun j => by unfold World.frozen?; rw [hx2]; cases j <;> rfl
    simp at z0 z1 z2 z3 z4
    have HG := Lib.hid (HA.out.trans (hg.mono (by simp)) : Below w.heap.size w w1)
    clear hg hx2
    go_wp2_with fail
    refine bodyPost_ret (v := .tuple #[.agg #[.int .u64 0, .int .i64 0, .int .i64 0, .int .u32 0, .bool false], .int .i64 13]) (by simp [results, Tryz.results56, go_sem, z0, z1, z2, z3, z4]) rfl ⟨rfl, ?_⟩
    have hb := HG.out
    repeat (first | with_reducible exact Below.refl _ _ | ((with_reducible refine Below.setCell ?_ ?_ _); rotate_left; focus (first | (simp; done) | (simp; omega) | omega)) | ((with_reducible refine Below.alloc ?_ ?_ _); rotate_left; focus (first | (simp; done) | (simp; omega) | omega)) | (with_reducible refine Below.drew ?_) | ((with_reducible refine Below.trans ?_ (Below.mono hb ?_)); rotate_left; focus (first | (simp; done) | (simp; omega) | omega)))
set_option maxRecDepth 100000 in
theorem find_any (B h N free x : Nat) (i : Int) (S : Nat → Bool) (M : Nat → Nat) (w : World) (H : HeapAt w B h N free S M) (c : CollOK N S M) (hx : x < 18446744073709551616) (hi0 : 0 ≤ i) (hi1 : i ≤ 100000000) :
    Calls Tryz.prog 98 #[.pointer (some ⟨h, 0, none⟩), .int .u64 (x : Int), .int .i64 i, .bool false] w fun e w' => ∃ z r : Int, e = .returned (.tuple #[.int .i64 z, .int .i64 r]) ∧ Below w.heap.size w w' ∧
      (if PtrIn S x = true ∧ kndX S M x ≠ 2 ∧ i < sizX S M x then r = 0 ∧ z = (x / 2 : Nat) + 2 + i else r ≠ 0) := by
  by_cases hp : PtrIn S x = true
  · obtain ⟨a, rfl, h1, h2, h3⟩ := ptrIn_iff.1 hp
    have ho := c.obj a h3
    have e2 : a * 2 / 2 = a := by omega
    have ek : kndX S M (a * 2) = hK (M (a + 1)) := by unfold kndX infX; rw [if_pos hp, e2]
    have es : sizX S M (a * 2) = hS (M (a + 1)) := by unfold sizX infX; rw [if_pos hp, e2]
    rw [ek, es, e2, hp]
    have A := hat_yes B h N free a S M w H (by omega) h2
    rw [h3] at A
    have AH := Lib.hid A
    have HD := Lib.hid (fun W (hW : Below w.heap.size w W) => hhead_yes B h N free a S M W (H.later hW) (by omega) ho.2.2.1)
    have hlim : hS (M (a + 1)) ≤ 1048576 := ho.2.2.1.2.2.1
    have h0 : 0 ≤ hS (M (a + 1)) := by unfold hS; omega
    clear H ho c hp h3 A ek es hx
    generalize hK (M (a + 1)) = vk at *
    generalize hS (M (a + 1)) = vs at *
    generalize hH (M (a + 1)) = vh at *
    generalize hM (M (a + 1)) = vm at *
    go_enter Tryz.func98, Tryz.ntmps98
    go_wp2_with fail
    refine AH.out.mono ?_
    rintro e w1 ⟨rfl, hg1⟩
    have HG1 := Lib.hid hg1; clear hg1
    go_wp2_with fail
    refine (HD.out w1 HG1.out).mono ?_
    rintro e w2 ⟨rfl, hg2⟩
    have HG2 := Lib.hid (HG1.out.trans (hg2.mono HG1.out.size)); clear hg2
    by_cases hk : vk = 2
    · subst hk
      go_wp2_with fail
      all_goals (try (exfalso; go_light; omega))
      refine bodyPost_ret (v := .tuple #[.int .i64 0, .int .i64 13]) (by simp [results, Tryz.results98, go_sem]) rfl ⟨0, 13, rfl, HG2.out.alloc HG2.out.size _, ?_⟩
      first | omega | (rw [if_neg (by omega)]; omega)
    · have q1 : (vk == 2) = false := by rw [beq_eq_false_iff_ne]; exact hk
      by_cases hlt : i < vs
      · go_wp2_with fail
        all_goals (try (exfalso; go_light; omega))
        refine bodyPost_ret (v := .tuple #[.int .i64 ((a : Int) + 2 + i), .int .i64 0]) (by simp [results, Tryz.results98, go_sem]) rfl ⟨_, _, rfl, HG2.out.alloc HG2.out.size _, ?_⟩
        first | exact ⟨rfl, rfl⟩ | (rw [if_pos ⟨rfl, hk, hlt⟩]; exact ⟨rfl, rfl⟩)
      · go_wp2_with fail
        all_goals (try (exfalso; go_light; omega))
        refine bodyPost_ret (v := .tuple #[.int .i64 0, .int .i64 6]) (by simp [results, Tryz.results98, go_sem]) rfl ⟨0, 6, rfl, HG2.out.alloc HG2.out.size _, ?_⟩
        first | omega | (rw [if_neg (by omega)]; omega)
  · have hneg : ¬ (PtrIn S x = true ∧ kndX S M x ≠ 2 ∧ i < sizX S M x) := fun hh => hp hh.1
    simp only [if_neg hneg]
    have AT : Calls Tryz.prog 78 #[.pointer (some ⟨h, 0, none⟩), .int .u64 (x : Int)] w fun e w' => ∃ z : Int, e = .returned (.tuple #[.int .i64 z, .bool false]) ∧ Below w.heap.size w w' := by
      by_cases hc : x % 2 = 0 ∧ x ≠ 0 ∧ x < 33554432
      · have hS : S (x / 2) = false := by
          cases hs : S (x / 2) with
          | false => rfl
          | true => exact absurd (ptrIn_iff.2 ⟨x / 2, by omega, by omega, by omega, hs⟩) hp
        have h1 := hat_yes B h N free (x / 2) S M w H (by omega) (by omega)
        rw [show ((x / 2 : Nat) : Int) * 2 = (x : Int) by omega, hS] at h1
        exact h1.mono fun e w' hh => ⟨_, hh.1, hh.2⟩
      · exact (hat_no B h N free x S M w H hx (by omega)).mono fun e w' hh => ⟨_, hh.1, hh.2⟩
    have ATH := Lib.hid AT
    clear H c hx hp AT hneg
    go_enter Tryz.func98, Tryz.ntmps98
    go_wp2_with fail
    refine ATH.out.mono ?_
    rintro e w1 ⟨z, rfl, hg⟩
    have HG := Lib.hid hg; clear hg
    go_wp2_with fail
    exact bodyPost_ret (v := .tuple #[.int .i64 0, .int .i64 13]) (by simp [results, Tryz.results98, go_sem]) rfl ⟨0, 13, rfl, HG.out, by omega⟩
set_option maxRecDepth 100000 in
theorem getX_any (B h N free x i : Nat) (S : Nat → Bool) (M : Nat → Nat) (w : World) (H : HeapAt w B h N free S M) (c : CollOK N S M) (hx : x < 18446744073709551616) (hi1 : i ≤ 100000000) :
    Calls Tryz.prog 73 #[.pointer (some ⟨h, 0, none⟩), .int .u64 (x : Int), .int .i64 (i : Int)] w fun e w' => ∃ r : Int, e = .returned (.tuple #[.int .u64 (getX S M x i : Int), .int .i64 r]) ∧ Below w.heap.size w w' := by
  have F := Lib.hid (find_any B h N free x (i : Int) S M w H c hx (by omega) (by omega))
  by_cases hc : PtrIn S x = true ∧ kndX S M x ≠ 2 ∧ (i : Int) < sizX S M x
  · have hge := getX_of hc.1 hc.2.1 hc.2.2
    obtain ⟨a, hxa, ha1, ha2, ha3⟩ := ptrIn_iff.1 hc.1
    have ho := c.obj a ha3
    have hz := cz4 ho.2.2.1 (c.small _)
    have e2 : x / 2 = a := by omega
    have ek : kndX S M x = hK (M (a + 1)) := by unfold kndX infX; rw [if_pos hc.1, e2]
    have es : sizX S M x = hS (M (a + 1)) := by unfold sizX infX; rw [if_pos hc.1, e2]
    rw [if_neg (by rw [← ek]; exact hc.2.1)] at hz
    have hlt : a + 2 + i < N := by rw [es] at hc; omega
    simp only [if_pos hc] at F
    rw [hge]
    rw [e2] at F ⊢
    obtain ⟨g, s, h1, h2, h3, h3', h4, h5, h6, h7, h8⟩ := H
    have hl := (Array.getElem?_eq_some_iff.1 h5).1
    have hlg := h6.lt
    have c0 : w.cell? ⟨h, 0, none⟩ = some (.slice (some ⟨g, 0, none⟩) N N) := by simp [World.cell?, h5]
    have k0 := h6.cell (i := a + 2 + i) hlt
    clear h5 h6 h8 hge hc c ho hz ek es hx hxa ha3
    generalize hq : a + 2 + i = q at *
    have hq2 := Lib.hid hq
    clear hq
    go_enter Tryz.func73, Tryz.ntmps73
    go_wp2_with fail
    refine F.out.mono ?_
    rintro e w1 ⟨z, r, rfl, hg, rfl, rfl⟩
    have c0' : w1.cell? ⟨h, 0, none⟩ = _ := (hg.cell (p := ⟨h, 0, none⟩) hl).trans c0
    have k0' : w1.cell? ⟨g, q, none⟩ = _ := (hg.cell (p := ⟨g, q, none⟩) hlg).trans k0
    have HG := Lib.hid hg; clear hg c0 k0
    rw [show (a : Int) + 2 + (i : Int) = (q : Int) by rw [← hq2.out]; omega]
    go_wp2_with fail
    exact bodyPost_ret (v := .tuple #[.int .u64 (M q : Int), .int .i64 0]) (by simp [results, Tryz.results73, go_sem]) rfl ⟨_, rfl, HG.out⟩
  · rw [getX_no hc]
    simp only [if_neg hc] at F
    clear H c hc hx
    go_enter Tryz.func73, Tryz.ntmps73
    go_wp2_with fail
    refine F.out.mono ?_
    rintro e w1 ⟨z, r, rfl, hg, hr⟩
    have HG := Lib.hid hg; clear hg
    have hr2 : (r != 0) = true := by simpa using hr
    go_wp2_with fail
    exact bodyPost_ret (v := .tuple #[.int .u64 0, .int .i64 r]) (by simp [results, Tryz.results73, go_sem]) rfl ⟨_, rfl, HG.out⟩
set_option maxRecDepth 100000 in
theorem byt_any (B h N free x : Nat) (S : Nat → Bool) (M : Nat → Nat) (w : World) (H : HeapAt w B h N free S M) (c : CollOK N S M) (hN : N ≤ 6000) (hx : x < 18446744073709551616) :
    Calls Tryz.prog 72 #[.pointer (some ⟨h, 0, none⟩), .int .u64 (x : Int)] w fun e w' => ∃ v, e = .returned (.tuple #[v, .int .i64 (if PtrIn S x = true ∧ kndX S M x = 2 then 0 else 13)]) ∧ BytesAt w' v (bytX S M x) ∧ Below w.heap.size w w' := by
  by_cases hc : PtrIn S x = true ∧ kndX S M x = 2
  · obtain ⟨a, rfl, ha1, ha2, ha3⟩ := ptrIn_iff.1 hc.1
    have ho := c.obj a ha3
    have hz := cz4 ho.2.2.1 (c.small _)
    have e2 : a * 2 / 2 = a := by omega
    have ek : kndX S M (a * 2) = hK (M (a + 1)) := by unfold kndX infX; rw [if_pos hc.1, e2]
    have es : sizX S M (a * 2) = hS (M (a + 1)) := by unfold sizX infX; rw [if_pos hc.1, e2]
    have h0 : 0 ≤ hS (M (a + 1)) := by unfold hS; omega
    rw [ek] at hc
    rw [if_pos hc.2] at hz
    have h1 := bytes_any B h N free a (hS (M (a + 1))).toNat S M w H ⟨by omega, by omega, ha3, ho.2.2.1, hc.2, by omega⟩ (by omega)
    unfold bytX
    rw [ek, if_pos hc, if_pos hc, es, e2, Int.natCast_mul]
    exact h1
  · have hb : bytX S M x = [] := if_neg hc
    have HD := Lib.hid (head_any B h N free x S M w H c hx)
    rw [hb, if_neg hc]
    have HC := Lib.hid hc
    clear H c hb hc
    generalize clsX S M x = vc at *
    generalize sizX S M x = vs at *
    generalize hH (infX S M x) = vh at *
    generalize mrkX S M x = vm at *
    by_cases hp : PtrIn S x = true
    · have hk : kndX S M x ≠ 2 := fun hh => HC.out ⟨hp, hh⟩
      rw [if_pos hp] at HD
      clear hp HC
      generalize kndX S M x = vk at *
      have hk2 : (vk != 2) = true := by simpa using hk
      go_enter Tryz.func72, Tryz.ntmps72
      go_wp2_with fail
      refine HD.out.mono ?_
      rintro e w1 ⟨rfl, hg⟩
      have HG := Lib.hid hg; clear hg
      go_wp2_with fail
      exact bodyPost_ret (v := .tuple #[.slice none 0 0, .int .i64 13]) (by simp [results, Tryz.results72, go_sem]) rfl ⟨_, rfl, bytes_none _, HG.out.alloc HG.out.size _⟩
    · rw [if_neg hp] at HD
      clear hp HC
      generalize kndX S M x = vk at *
      go_enter Tryz.func72, Tryz.ntmps72
      go_wp2_with fail
      refine HD.out.mono ?_
      rintro e w1 ⟨rfl, hg⟩
      have HG := Lib.hid hg; clear hg
      go_wp2_with fail
      exact bodyPost_ret (v := .tuple #[.slice none 0 0, .int .i64 13]) (by simp [results, Tryz.results72, go_sem]) rfl ⟨_, rfl, bytes_none _, HG.out.alloc HG.out.size _⟩
end Go.Proofs.YtibopjjicfiimaaGreatDoor
namespace Go.Proofs.YtibopjjicfiimaaGreatDoor
open Go.RowKit
set_option linter.unusedVariables false
/-- the block of a look: memory, the root, the root's words, the classes -/
def SndAt (w : World) (L h root : Nat) (sp : Nat → Nat) (cv : Value) : Prop :=
  ∃ cur : Array Value, w.heap[L]? = some (.cells cur 77 (0, 0)) ∧ cur.size = 27 ∧ cur[0]? = some (.pointer (some ⟨h, 0, none⟩)) ∧ cur[1]? = some (.int .u64 (root : Int)) ∧ (∀ i, i < 24 → cur[2 + i]? = some (.int .u64 (sp i : Int))) ∧ cur[26]? = some cv
/-- a look, and the memory that it looks at -/
structure Lk (w : World) (B h N free : Nat) (S : Nat → Bool) (M : Nat → Nat) (L root : Nat) (sp : Nat → Nat) (cv : Value) : Prop where
  H : HeapAt w B h N free S M
  c : CollOK N S M
  n : N ≤ 6000
  at_ : SndAt w L h root sp cv
  hsp : ∀ i, i < 24 → sp i < 18446744073709551616
  hr : root < 18446744073709551616
  T : TabAt 0 Lib.deBruijn64tab w
  far : HeapLt w h L
  tab : 0 < L
section
variable {w w' : World} {B h N free L root : Nat} {S : Nat → Bool} {M : Nat → Nat} {sp : Nat → Nat} {cv : Value}
theorem SndAt.later (k : SndAt w L h root sp cv) (hb : Below w.heap.size w w') : SndAt w' L h root sp cv := by
  obtain ⟨cur, h1, h2⟩ := k
  exact ⟨cur, by rw [hb.block L (Array.getElem?_eq_some_iff.1 h1).1]; exact h1, h2⟩
theorem Lk.later (k : Lk w B h N free S M L root sp cv) (hb : Below w.heap.size w w') : Lk w' B h N free S M L root sp cv :=
  ⟨k.H.later hb, k.c, k.n, k.at_.later hb, k.hsp, k.hr, tab_later k.T hb, k.far.far fun q hq => hb.block q (Nat.lt_trans hq (Array.getElem?_eq_some_iff.1 k.at_.choose_spec.1).1), k.tab⟩
theorem SndAt.lt (k : SndAt w L h root sp cv) : L < w.heap.size := by
  obtain ⟨cur, h1, h2⟩ := k
  exact (Array.getElem?_eq_some_iff.1 h1).1
/-- another root's words, other classes: the block alone has turned -/
theorem Lk.turn {sp' : Nat → Nat} {cv' : Value} (k : Lk w B h N free S M L root sp cv) (hg : w.grownBy w' (some L)) (ha : SndAt w' L h root sp' cv') (hs : ∀ i, i < 24 → sp' i < 18446744073709551616) : Lk w' B h N free S M L root sp' cv' := by
  have hl := k.at_.lt
  have hq : ∀ q, q < L → w'.heap[q]? = w.heap[q]? := fun q hq => hg.block q (by omega) (by simp; omega)
  refine ⟨k.H.far k.far hq, k.c, k.n, ha, hs, k.hr, fun j hj => ?_, k.far.far hq, k.tab⟩
  have := k.T j hj
  rw [World.cell?_of_block (a := ⟨0, j, none⟩) (hq _ k.tab)]
  exact this
theorem grown_below2 {row : Option Nat} (hb : Below w.heap.size w w') : w.grownBy w' row := ⟨hb.os, hb.tape, hb.output, hb.size, fun q hq _ => hb.block q hq⟩
theorem SndAt.heap (k : SndAt w L h root sp cv) : w.cell? ⟨L, 0, none⟩ = some (.pointer (some ⟨h, 0, none⟩)) := by
  obtain ⟨cur, h1, h2, h3, -⟩ := k
  rw [cellO h1 0]; exact h3
theorem SndAt.rt (k : SndAt w L h root sp cv) : w.cell? ⟨L, 1, none⟩ = some (.int .u64 (root : Int)) := by
  obtain ⟨cur, h1, h2, h3, h4, -⟩ := k
  rw [cellO h1 1]; exact h4
theorem SndAt.word (k : SndAt w L h root sp cv) {i : Nat} (hi : i < 24) : w.cell? ⟨L, 2 + i, none⟩ = some (.int .u64 (sp i : Int)) := by
  obtain ⟨cur, h1, h2, h3, h4, h5, -⟩ := k
  rw [cellO h1 (2 + i)]; exact h5 i hi
theorem SndAt.cls (k : SndAt w L h root sp cv) : w.cell? ⟨L, 26, none⟩ = some cv := by
  obtain ⟨cur, h1, h2, h3, h4, h5, h6⟩ := k
  rw [cellO h1 26]; exact h6
end
theorem u64_eq_iff {a b : Nat} : ((a : Int) == (b : Int)) = decide (a = b) := by
  rw [Bool.eq_iff_iff]; simp; omega
theorem infX_lt {N : Nat} {S : Nat → Bool} {M : Nat → Nat} (c : CollOK N S M) (x : Nat) : infX S M x < 18446744073709551616 := by
  unfold infX; split
  · exact c.small _
  · omega
theorem clsX_lt {N : Nat} {S : Nat → Bool} {M : Nat → Nat} (c : CollOK N S M) (x : Nat) : clsX S M x < 18446744073709551616 := by
  unfold clsX; split
  · exact c.small _
  · omega
theorem sizX_bd {N : Nat} {S : Nat → Bool} {M : Nat → Nat} (c : CollOK N S M) (x : Nat) : 0 ≤ sizX S M x ∧ sizX S M x ≤ 1048576 := by
  refine ⟨by unfold sizX hS; omega, ?_⟩
  unfold sizX infX
  split
  · rename_i hp
    obtain ⟨a, rfl, h1, h2, h3⟩ := ptrIn_iff.1 hp
    have := (c.obj a h3).2.2.1.2.2.1
    rw [show a * 2 / 2 = a by omega]; exact this
  · show hS (0 : Nat) ≤ _; unfold hS; omega
/-- an object of a class of the root -/
def ofB (S : Nat → Bool) (M : Nat → Nat) (sp : Nat → Nat) (x c : Nat) : Bool := PtrIn S x && decide (clsX S M x = sp c)
def isB (S : Nat → Bool) (M : Nat → Nat) (sp : Nat → Nat) (x : Nat) (k : Int) (c : Nat) : Bool := PtrIn S x && decide (kndX S M x = k) && decide (clsX S M x = sp c)
def shB (S : Nat → Bool) (M : Nat → Nat) (x : Nat) : Bool := PtrIn S x && decide (kndX S M x = 0) && decide (sizX S M x = 5)
/-- a symbol -/
def txB (S : Nat → Bool) (M : Nat → Nat) (sp : Nat → Nat) (x : Nat) : Bool := PtrIn S x && decide (kndX S M x = 2) && decide (clsX S M x = sp 13)
section
variable {w : World} {B h N free L root : Nat} {S : Nat → Bool} {M : Nat → Nat} {sp : Nat → Nat} {cv : Value}
set_option maxRecDepth 100000 in
theorem of_any (x c : Nat) (k : Lk w B h N free S M L root sp cv) (hx : x < 18446744073709551616) (hc : c < 24) :
    Calls Tryz.prog 58 #[.pointer (some ⟨L, 0, none⟩), .int .u64 (x : Int), .int .i64 (c : Int)] w fun e w' => e = .returned (.bool (ofB S M sp x c)) ∧ Below w.heap.size w w' := by
  have HD := Lib.hid (fun W (hW : Below w.heap.size w W) => head_any B h N free x S M W (k.H.later hW) k.c hx)
  have K := Lib.hid k
  have y0 := k.at_.heap
  have hLl := k.at_.lt
  clear k
  unfold ofB
  generalize clsX S M x = vc at *
  generalize kndX S M x = vk at *
  generalize sizX S M x = vs at *
  generalize hH (infX S M x) = vh at *
  generalize mrkX S M x = vm at *
  generalize PtrIn S x = p at *
  go_enter Tryz.func58, Tryz.ntmps58
  go_wp2_with fail
  refine (HD.out w (Below.refl _ _)).mono ?_
  rintro e w1 ⟨rfl, hg⟩
  have HG := Lib.hid hg
  have hs1 := hg.size
  obtain ⟨w2, hw2⟩ : ∃ w2, w2 = w1.alloc (.cells #[.int .u64 (vc : Int), .int .i64 vk, .int .i64 vs, .int .u32 vh, .bool vm] 119) := ⟨_, rfl⟩
  have hx2 : w2.heap[w1.heap.size]? = some (.cells #[.int .u64 (vc : Int), .int .i64 vk, .int .i64 vs, .int .u32 vh, .bool vm] 119 (0, 0)) := by rw [hw2]; exact heap_alloc_new w1 _
  have hg2 : Below w1.heap.size w1 w2 := by rw [hw2]; exact (Below.refl _ w1).alloc (Nat.le_refl _) _
  have HG2 := Lib.hid (hg.trans (hg2.mono hg.size))
  have LA := K.out.at_.later HG2.out
  have u0 := LA.heap
  have u1 := LA.word hc
  have z0 := cellO hx2 0
  simp at z0
  clear hg hg2 hx2 LA y0
  go_upto_region 2 with fail
  rw [← hw2]
  clear hw2
  cases p
  · go_quiet (fail)
    go_wp2_with fail
    go_ret
    exact ⟨rfl, below_drewN HG2.out _⟩
  · go_quiet (fail)
    go_wp2_with fail
    go_ret
    exact ⟨by simp [u64_eq_iff], below_drewN HG2.out _⟩
set_option maxRecDepth 100000 in
theorem is2_any (x c : Nat) (q : Int) (k : Lk w B h N free S M L root sp cv) (hx : x < 18446744073709551616) (hc : c < 24) :
    Calls Tryz.prog 93 #[.pointer (some ⟨L, 0, none⟩), .int .u64 (x : Int), .int .i64 q, .int .i64 (c : Int)] w fun e w' => e = .returned (.bool (isB S M sp x q c)) ∧ Below w.heap.size w w' := by
  have HD := Lib.hid (fun W (hW : Below w.heap.size w W) => head_any B h N free x S M W (k.H.later hW) k.c hx)
  have K := Lib.hid k
  have y0 := k.at_.heap
  have hLl := k.at_.lt
  clear k
  unfold isB
  generalize clsX S M x = vc at *
  generalize kndX S M x = vk at *
  generalize sizX S M x = vs at *
  generalize hH (infX S M x) = vh at *
  generalize mrkX S M x = vm at *
  generalize PtrIn S x = p at *
  go_enter Tryz.func93, Tryz.ntmps93
  go_wp2_with fail
  refine (HD.out w (Below.refl _ _)).mono ?_
  rintro e w1 ⟨rfl, hg⟩
  have HG := Lib.hid hg
  have hs1 := hg.size
  obtain ⟨w2, hw2⟩ : ∃ w2, w2 = w1.alloc (.cells #[.int .u64 (vc : Int), .int .i64 vk, .int .i64 vs, .int .u32 vh, .bool vm] 119) := ⟨_, rfl⟩
  have hx2 : w2.heap[w1.heap.size]? = some (.cells #[.int .u64 (vc : Int), .int .i64 vk, .int .i64 vs, .int .u32 vh, .bool vm] 119 (0, 0)) := by rw [hw2]; exact heap_alloc_new w1 _
  have hg2 : Below w1.heap.size w1 w2 := by rw [hw2]; exact (Below.refl _ w1).alloc (Nat.le_refl _) _
  have HG2 := Lib.hid (hg.trans (hg2.mono hg.size))
  have LA := K.out.at_.later HG2.out
  have u0 := LA.heap
  have u1 := LA.word hc
  have z0 := cellO hx2 0
  have z1 := cellO hx2 1
  simp at z0 z1
  clear hg hg2 hx2 LA y0
  go_upto_region 2 with fail
  rw [← hw2]
  clear hw2
  cases p
  · go_quiet (fail)
    go_wp2_with fail
    go_ret
    exact ⟨rfl, below_drewN HG2.out _⟩
  · by_cases hq : vk = q
    · subst hq
      go_quiet (fail)
      go_wp2_with fail
      go_ret
      exact ⟨by simp [u64_eq_iff], below_drewN HG2.out _⟩
    · have hq2 : (vk == q) = false := by simpa using hq
      go_quiet (fail)
      go_wp2_with fail
      go_ret
      exact ⟨by simp, below_drewN HG2.out _⟩
set_option maxRecDepth 100000 in
theorem slots_any (x : Nat) (k : Lk w B h N free S M L root sp cv) (hx : x < 18446744073709551616) :
    Calls Tryz.prog 57 #[.pointer (some ⟨L, 0, none⟩), .int .u64 (x : Int)] w fun e w' => e = .returned (.bool (isB S M sp x 1 14)) ∧ Below w.heap.size w w' := by
  have HD := Lib.hid (is2_any x 14 1 k hx (by omega))
  clear k
  go_enter Tryz.func57, Tryz.ntmps57
  go_wp2_with fail
  refine HD.out.mono ?_
  rintro e w1 ⟨rfl, hg⟩
  have HG := Lib.hid hg; clear hg
  go_wp2_with fail
  go_ret
  exact ⟨rfl, HG.out⟩
set_option maxRecDepth 100000 in
theorem shaped_any (x : Nat) (k : Lk w B h N free S M L root sp cv) (hx : x < 18446744073709551616) :
    Calls Tryz.prog 60 #[.pointer (some ⟨L, 0, none⟩), .int .u64 (x : Int)] w fun e w' => e = .returned (.bool (shB S M x)) ∧ Below w.heap.size w w' := by
  have HD := Lib.hid (fun W (hW : Below w.heap.size w W) => head_any B h N free x S M W (k.H.later hW) k.c hx)
  have K := Lib.hid k
  have y0 := k.at_.heap
  have hLl := k.at_.lt
  clear k
  unfold shB
  generalize clsX S M x = vc at *
  generalize kndX S M x = vk at *
  generalize sizX S M x = vs at *
  generalize hH (infX S M x) = vh at *
  generalize mrkX S M x = vm at *
  generalize PtrIn S x = p at *
  go_enter Tryz.func60, Tryz.ntmps60
  go_wp2_with fail
  refine (HD.out w (Below.refl _ _)).mono ?_
  rintro e w1 ⟨rfl, hg⟩
  have HG := Lib.hid hg
  have hs1 := hg.size
  obtain ⟨w2, hw2⟩ : ∃ w2, w2 = w1.alloc (.cells #[.int .u64 (vc : Int), .int .i64 vk, .int .i64 vs, .int .u32 vh, .bool vm] 119) := ⟨_, rfl⟩
  have hx2 : w2.heap[w1.heap.size]? = some (.cells #[.int .u64 (vc : Int), .int .i64 vk, .int .i64 vs, .int .u32 vh, .bool vm] 119 (0, 0)) := by rw [hw2]; exact heap_alloc_new w1 _
  have hg2 : Below w1.heap.size w1 w2 := by rw [hw2]; exact (Below.refl _ w1).alloc (Nat.le_refl _) _
  have HG2 := Lib.hid (hg.trans (hg2.mono hg.size))
  have LA := K.out.at_.later HG2.out
  have u0 := LA.heap
  have z1 := cellO hx2 1
  have z2 := cellO hx2 2
  simp at z1 z2
  clear hg hg2 hx2 LA y0
  go_upto_region 2 with fail
  rw [← hw2]
  clear hw2
  cases p
  · go_wp2_with fail
    go_ret
    exact ⟨rfl, HG2.out⟩
  · by_cases hq : vk = 0
    · subst hq
      go_wp2_with fail
      go_ret
      exact ⟨by simp; try rfl, HG2.out⟩
    · have hq2 : (vk == 0) = false := by simpa using hq
      go_wp2_with fail
      go_ret
      exact ⟨by simp, HG2.out⟩
set_option maxRecDepth 100000 in
theorem meta_any (x : Nat) (k : Lk w B h N free S M L root sp cv) (hx : x < 18446744073709551616) :
    Calls Tryz.prog 64 #[.pointer (some ⟨L, 0, none⟩), .int .u64 (x : Int)] w fun e w' => e = .returned (.int .u64 (clsX S M x : Int)) ∧ Below w.heap.size w w' := by
  have HD := Lib.hid (fun W (hW : Below w.heap.size w W) => head_any B h N free x S M W (k.H.later hW) k.c hx)
  have y0 := k.at_.heap
  clear k
  generalize clsX S M x = vc at *
  generalize kndX S M x = vk at *
  generalize sizX S M x = vs at *
  generalize hH (infX S M x) = vh at *
  generalize mrkX S M x = vm at *
  generalize (if PtrIn S x = true then (0 : Int) else 13) = ve at *
  go_enter Tryz.func64, Tryz.ntmps64
  go_wp2_with fail
  refine (HD.out w (Below.refl _ _)).mono ?_
  rintro e w1 ⟨rfl, hg⟩
  have HG := Lib.hid hg
  clear hg
  go_wp2_with fail
  go_ret
  exact ⟨rfl, HG.out.alloc HG.out.size _⟩
set_option maxRecDepth 100000 in
theorem part_any (x i : Nat) (k : Lk w B h N free S M L root sp cv) (hx : x < 18446744073709551616) (hi : i ≤ 100000000) :
    Calls Tryz.prog 61 #[.pointer (some ⟨L, 0, none⟩), .int .u64 (x : Int), .int .i64 (i : Int)] w fun e w' => e = .returned (.int .u64 (getX S M x i : Int)) ∧ Below w.heap.size w w' := by
  have HD := Lib.hid (getX_any B h N free x i S M w k.H k.c hx hi)
  have y0 := k.at_.heap
  clear k
  go_enter Tryz.func61, Tryz.ntmps61
  go_wp2_with fail
  refine HD.out.mono ?_
  rintro e w1 ⟨r, rfl, hg⟩
  have HG := Lib.hid hg; clear hg
  go_wp2_with fail
  go_ret
  exact ⟨rfl, HG.out⟩
set_option maxRecDepth 100000 in
theorem text_any (x : Nat) (k : Lk w B h N free S M L root sp cv) (hx : x < 18446744073709551616) :
    Calls Tryz.prog 62 #[.pointer (some ⟨L, 0, none⟩), .int .u64 (x : Int)] w fun e w' => ∃ v, e = .returned (.tuple #[v, .bool (txB S M sp x)]) ∧ BytesAt w' v (bytX S M x) ∧ Below w.heap.size w w' := by
  have HD := Lib.hid (byt_any B h N free x S M w k.H k.c k.n hx)
  have HO := Lib.hid (fun W (hW : Below w.heap.size w W) => of_any x 13 (k.later hW) hx (by omega))
  have y0 := k.at_.heap
  clear k
  unfold txB
  by_cases hc : PtrIn S x = true ∧ kndX S M x = 2
  · rw [if_pos hc] at HD
    have e1 : ofB S M sp x 13 = decide (clsX S M x = sp 13) := by unfold ofB; rw [hc.1]; rfl
    rw [e1] at HO
    rw [hc.1, hc.2]
    clear e1 hc
    generalize clsX S M x = vc at *
    generalize sp 13 = vd at *
    go_enter Tryz.func62, Tryz.ntmps62
    go_wp2_with fail
    refine HD.out.mono ?_
    rintro e w1 ⟨v, rfl, hb, hg⟩
    have HG := Lib.hid hg; have HBY := Lib.hid hb; clear hg hb
    go_wp2_with fail
    refine (HO.out w1 HG.out).mono ?_
    rintro e w2 ⟨rfl, hg⟩
    have HG2 := Lib.hid (HG.out.trans (hg.mono HG.out.size))
    have HBY2 := Lib.hid (HBY.out.later hg)
    clear hg
    go_wp2_with fail
    exact bodyPost_ret (v := .tuple #[v, .bool (decide (vc = vd))]) (by simp [results, Tryz.results62, go_sem]) rfl ⟨_, by simp, HBY2.out, HG2.out⟩
  · rw [if_neg hc] at HD
    have e1 : (PtrIn S x && decide (kndX S M x = 2) && decide (clsX S M x = sp 13)) = false := by
      cases h1 : PtrIn S x with
      | false => rfl
      | true =>
        have : ¬ kndX S M x = 2 := fun h2 => hc ⟨h1, h2⟩
        simp [this]
    rw [e1]
    clear e1 hc HO
    go_enter Tryz.func62, Tryz.ntmps62
    go_wp2_with fail
    refine HD.out.mono ?_
    rintro e w1 ⟨v, rfl, hb, hg⟩
    have HG := Lib.hid hg; have HBY := Lib.hid hb; clear hg hb
    go_wp2_with fail
    exact bodyPost_ret (v := .tuple #[v, .bool false]) (by simp [results, Tryz.results62, go_sem]) rfl ⟨_, rfl, HBY.out, HG.out⟩
set_option maxRecDepth 100000 in
set_option maxHeartbeats 1600000 in
theorem wrds_any (x : Nat) (k : Lk w B h N free S M L root sp cv) (hx : x < 18446744073709551616) :
    Calls Tryz.prog 55 #[.pointer (some ⟨L, 0, none⟩), .int .u64 (x : Int)] w fun e w' => ∃ v, e = .returned v ∧ WordsAt w' v (wrdX S M x) ∧ Up w.heap.size v ∧ Below w.heap.size w w' := by
  have HD := Lib.hid (fun W (hW : Below w.heap.size w W) => head_any B h N free x S M W (k.H.later hW) k.c hx)
  have K := Lib.hid k
  have GE := Lib.hid (fun W i (hi : i ≤ 100000000) (hW : Below w.heap.size w W) => getX_any B h N free x i S M W (k.H.later hW) k.c hx hi)
  have GX := Lib.hid (fun i => show getX S M x i = (wrdX S M x).getD i 0 from rfl)
  have hwl := wrdX_len S M x
  obtain ⟨hs0, hs1⟩ := sizX_bd k.c x
  have y0 := k.at_.heap
  have hLl := k.at_.lt
  clear k
  by_cases hc : PtrIn S x = true ∧ kndX S M x ≠ 2
  · rw [if_pos hc] at hwl
    simp only [if_pos hc.1] at HD
    obtain ⟨n, hn⟩ := Int.eq_ofNat_of_zero_le hs0
    rw [hn] at HD hwl hs1
    rw [Int.toNat_natCast] at hwl
    have hk := hc.2
    clear hs0 hn hc
    generalize clsX S M x = vc at *
    generalize kndX S M x = vk at *
    generalize hH (infX S M x) = vh at *
    generalize mrkX S M x = vm at *
    generalize wrdX S M x = ws at *
    have hk2 : (vk == 2) = false := by simpa using hk
    have hmk : ∀ W, (Instr.makeSlice 40 (.int .i64 (n : Int)) (.int .i64 (n : Int))).run Tryz.prog W = .ok (.slice (some ⟨W.heap.size, 0, none⟩) n n) (W.alloc (.cells (madeCells #[.int .u64 0] n) 39)) :=
      fun W => run_make_row' (P := Tryz.prog) 40 39 (.int .u64 0) 8 Tryz.underlying40 cellInfo rfl .i64 .i64 n (by omega) (by omega) W
    go_enter Tryz.func55, Tryz.ntmps55
    go_wp2_with fail
    refine (HD.out w (Below.refl _ _)).mono ?_
    rintro e w1 ⟨rfl, hg⟩
    have hs1' := hg.size
    obtain ⟨w2, hw2⟩ : ∃ w2, w2 = w1.alloc (.cells #[.int .u64 (vc : Int), .int .i64 vk, .int .i64 (n : Int), .int .u32 vh, .bool vm] 119) := ⟨_, rfl⟩
    have hx2 : w2.heap[w1.heap.size]? = some (.cells #[.int .u64 (vc : Int), .int .i64 vk, .int .i64 (n : Int), .int .u32 vh, .bool vm] 119 (0, 0)) := by rw [hw2]; exact heap_alloc_new w1 _
    have hg2 : Below w1.heap.size w1 w2 := by rw [hw2]; exact (Below.refl _ w1).alloc (Nat.le_refl _) _
    have HG2 := Lib.hid (hg.trans (hg2.mono hg.size))
    have z1 := cellO hx2 1
    have z2 := cellO hx2 2
    simp at z1 z2
    have hs2 := HG2.out.size
    clear hg hg2 hx2 y0
    go_upto_region 2 with fail
    rw [← hw2]
    clear hw2
    have HR0 := Lib.hid (show (w2.alloc (.cells (madeCells #[.int .u64 0] n) 39)).rowIs w2.heap.size 39 n (fun _ => .int .u64 0) from World.rowIs_made w2 (.int .u64 0) n 39)
    have HB0 := Lib.hid (show Below w.heap.size w (w2.alloc (.cells (madeCells #[.int .u64 0] n) 39)) from HG2.out.alloc hs2 _)
    go_wp2_with fail
    generalize w2.heap.size = g0 at *
    go_loopg [30] n (fun gg j wr => ∃ k : Nat, gg = n - k ∧ k ≤ n ∧ j = .int .i64 k ∧ wr.rowIs g0 39 n (fun i => if i < k then .int .u64 (ws.getD i 0 : Nat) else .int .u64 0) ∧ Below w.heap.size w wr)
    case atStart => exact ⟨0, rfl, by omega, rfl, HR0.out.congr fun i hi => by rw [if_neg (by omega)], HB0.out⟩
    case round =>
      obtain ⟨k, hgk, hk, rfl, hr, hb⟩ := hrel
      have HK := Lib.hid hgk; have HB := Lib.hid hb; have HR := Lib.hid hr; clear hgk
      by_cases hlt : k < n
      · have hlg := hr.lt
        have G1 := GE.out wr k (by omega) hb
        rw [GX.out k] at G1
        have GH := Lib.hid G1
        have y0 := (K.out.at_.later hb).heap
        clear hr hb G1
        go_wp2_with fail
        refine GH.out.mono ?_
        rintro e w3 ⟨r, rfl, hg3⟩
        have hr3 := HR.out.of_block (hg3.block g0 hlg)
        have hc3 := hr3.cell hlt
        rw [if_neg (by omega)] at hc3
        have hf3 := hr3.frozen k
        have hl3 := hr3.lt
        have HR3 := Lib.hid ((hr3.set k (.int .u64 (ws.getD k 0 : Nat))).congr (g := fun i => if i < k + 1 then .int .u64 (ws.getD i 0 : Nat) else .int .u64 0) fun i hi => by
          by_cases e : i = k
          · subst e; rw [if_pos rfl, if_pos (by omega)]
          · rw [if_neg e]
            by_cases e2 : i < k
            · rw [if_pos e2, if_pos (by omega)]
            · rw [if_neg e2, if_neg (by omega)])
        have HB3 := Lib.hid ((HB.out.trans (hg3.mono HB.out.size)).setCell (p := ⟨g0, k, none⟩) hs2 (.int .u64 (ws.getD k 0 : Nat)))
        clear hr3 hg3 y0
        generalize ws.getD k 0 = bv at *
        go_wp2_with fail
        go_roundg (n - (k + 1))
        case measure => rw [HK.out]; omega
        case rel => exact ⟨k + 1, rfl, by omega, by go_num, HR3.out, HB3.out⟩
      · obtain rfl : k = n := by omega
        have HWA := Lib.hid (show WordsAt wr (.slice (some ⟨g0, 0, none⟩) k k) ws by
          refine ⟨some ⟨g0, 0, none⟩, k, by rw [hwl], by omega, by unfold maxLen; omega, Or.inr ⟨g0, 0, rfl, fun i hi => ?_⟩, fun h => by cases h⟩
          rw [wordVals_length, hwl] at hi
          have hc := hr.cell hi
          rw [if_pos hi] at hc
          rw [Nat.zero_add, hc, wordVals, List.getElem?_map, List.getElem?_eq_getElem (by omega), List.getD_eq_getElem?_getD, List.getElem?_eq_getElem (by omega)]
          rfl)
        clear hr hb
        go_wp2_with fail
        go_ret
        exact ⟨_, rfl, HWA.out, up_some hs2, HB.out⟩
  · have hb : wrdX S M x = [] := if_neg hc
    rw [hb]
    have HC := Lib.hid hc
    clear hb hc GE GX hwl
    generalize clsX S M x = vc at *
    generalize sizX S M x = vs at *
    generalize hH (infX S M x) = vh at *
    generalize mrkX S M x = vm at *
    by_cases hp : PtrIn S x = true
    · have hk : kndX S M x = 2 := Classical.byContradiction fun hh => HC.out ⟨hp, hh⟩
      simp only [if_pos hp] at HD
      rw [hk] at HD
      clear hp HC hk
      go_enter Tryz.func55, Tryz.ntmps55
      go_wp2_with fail
      refine (HD.out w (Below.refl _ _)).mono ?_
      rintro e w1 ⟨rfl, hg⟩
      have HG := Lib.hid hg; clear hg
      go_wp2_with fail
      go_ret
      exact ⟨_, rfl, words_none _, up_none _ _ _, HG.out.alloc HG.out.size _⟩
    · simp only [if_neg hp] at HD
      clear hp HC
      generalize kndX S M x = vk at *
      go_enter Tryz.func55, Tryz.ntmps55
      go_wp2_with fail
      refine (HD.out w (Below.refl _ _)).mono ?_
      rintro e w1 ⟨rfl, hg⟩
      have HG := Lib.hid hg; clear hg
      go_wp2_with fail
      go_ret
      exact ⟨_, rfl, words_none _, up_none _ _ _, HG.out.alloc HG.out.size _⟩
end
end Go.Proofs.YtibopjjicfiimaaGreatDoor
