/- Bytes that are no image. -/
import Derived.Test.YtaillinlbbhdkaaDoorImgB
import Derived.Test.YtaillinlbbhdkaaDoorShelf
import Derived.Lib.SmallJoins
namespace Go.Proofs.YtaillinlbbhdkaaDoor
open Go.RowKit
set_option linter.unusedVariables false
theorem bytesOf_nats (L : List UInt8) : Lib.bytesOf (L.map fun b => (b.toNat : Int)) = L := by
  unfold Lib.bytesOf
  rw [List.map_map]
  conv => rhs; rw [← List.map_id L]
  apply List.map_congr_left
  intro b _
  simp
/-- is it an image at all? -/
def Fits (L : List UInt8) : Prop := Lib.hasPrefix L headL = true ∧ getN (L.drop (L.length - 4)) 4 = crc (nats (L.take (L.length - 4)))
theorem prefix_any (v u : Value) (L H : List UInt8) (w : World) (hv : BytesAt w v L) (hu : BytesAt w u H) (hl : 0 < L.length) (hh : 0 < H.length) :
    Calls Tryd.prog 53 #[v, u] w fun e w' => e = .returned (.bool (Lib.hasPrefix L H)) ∧ w' = w := by
  obtain ⟨a, c, rfl, l1, l2, l3⟩ := hv.get
  obtain ⟨a', c', rfl, k1, k2, k3⟩ := hu.get
  obtain ⟨b, o, rfl, -⟩ := l3 0 hl
  obtain ⟨b', o', rfl, -⟩ := k3 0 hh
  have h := Tryd.bytes_HasPrefix b o L.length c b' o' H.length c' (L.map fun b => (b.toNat : Int)) (H.map fun b => (b.toNat : Int)) w (by simp) (by simp) l1
    (fun i hi => by
      obtain ⟨b2, o2, he, hc⟩ := l3 i hi
      simp at he
      obtain ⟨rfl, rfl⟩ := he
      rw [hc.2]
      simp [List.getD_eq_getElem?_getD, hi])
    (fun i hi => by
      obtain ⟨b2, o2, he, hc⟩ := k3 i hi
      simp at he
      obtain ⟨rfl, rfl⟩ := he
      rw [hc.2]
      simp [List.getD_eq_getElem?_getD, hi])
  rw [bytesOf_nats, bytesOf_nats] at h
  exact h
theorem getN4_lt (l : List UInt8) : getN l 4 < 4294967296 := by
  unfold getN
  split
  · have h := leVal_lt (l.take (clip8 4))
    have h4 : clip8 4 = 4 := by decide
    rw [h4] at h ⊢
    have hl : (l.take 4).length ≤ 4 := by rw [List.length_take]; omega
    exact Nat.lt_of_lt_of_le h (Nat.pow_le_pow_right (by omega) (show 8 * (l.take 4).length ≤ 32 by omega))
  · omega
set_option maxRecDepth 100000 in
set_option maxHeartbeats 1600000 in
theorem check_bad (v : Value) (L : List UInt8) (k : Nat) (w : World) (hv : BytesAt w v L) (hl : L.length = 36 + 8 * k) (hk : k ≤ 1000) (hbad : ¬ Fits L) :
    Calls Tryd.prog 27 #[v] w fun e w' => ∃ c : Int, e = .returned (.tuple #[.agg #[.int .u64 0, .int .u64 0, .int .u64 0], .int .i64 c]) ∧ c ≠ 0 ∧ Below w.heap.size w w' := by
  have kc := Go.Joins.run_convert_bytes_const_at (P := Tryd.prog) (w.alloc (.cells #[.int .u64 0, .int .u64 0, .int .u64 0] 69)) 34 5 #[.int .u8 70, .int .u8 78, .int .u8 68, .int .u8 76] 4 4 (w.heap.size + 1) (by simp) Tryd.underlying34 Tryd.underlying5
  have h4 := bytes_four (w.alloc (.cells #[.int .u64 0, .int .u64 0, .int .u64 0] 69))
  rw [show (w.alloc (.cells #[.int .u64 0, .int .u64 0, .int .u64 0] 69)).heap.size = w.heap.size + 1 by simp] at h4
  have PU := put_any _ [70, 78, 68, 76] 1 4 _ h4 (by simp)
  rw [headPut] at PU
  have PUH := Lib.hid PU
  have HB2 := Lib.hid (show Below w.heap.size w ((w.alloc (.cells #[.int .u64 0, .int .u64 0, .int .u64 0] 69)).alloc (.cells #[.int .u8 70, .int .u8 78, .int .u8 68, .int .u8 76] 5 (4, 5))) from ((Below.refl _ w).alloc (Nat.le_refl _) _).alloc (by simp) _)
  have HR2 := Lib.hid (show ((w.alloc (.cells #[.int .u64 0, .int .u64 0, .int .u64 0] 69)).alloc (.cells #[.int .u8 70, .int .u8 78, .int .u8 68, .int .u8 76] 5 (4, 5))).heap[w.heap.size]? = some (.cells #[.int .u64 0, .int .u64 0, .int .u64 0] 69 (0, 0)) from by rw [Below.heap_alloc _ _ _ (by simp)]; exact heap_alloc_new w _)
  clear h4 PU
  have HV := Lib.hid hv
  have HBAD := Lib.hid hbad
  obtain ⟨a, cap, hve, l1, l2, l3, l4⟩ := hv
  have hae : ∃ b o, a = some ⟨b, o, none⟩ := by
    rcases l3 with h | ⟨b, o, h, -⟩
    · have : (Lib.byteCells L).length = 0 := by rw [h]; rfl
      rw [Lib.byteCells_length] at this; omega
    · exact ⟨b, o, h⟩
  obtain ⟨b, o, rfl⟩ := hae
  rw [hl] at hve l1
  subst hve
  unfold maxLen at l2
  clear l3 l4 hbad
  go_enter Tryd.func27, Tryd.ntmps27
  go_wp2_with fail
  refine PUH.out.mono ?_
  rintro e w3 ⟨pv, rfl, hop, hg3⟩
  have HB3 := Lib.hid (HB2.out.trans (hg3.mono HB2.out.size))
  have HR3 := Lib.hid ((hg3.block w.heap.size (by simp; omega)).trans HR2.out)
  have HPX := Lib.hid (prefix_any _ pv L headL w3 (HV.out.later HB3.out) (bytes_of_owns hop) (by omega) (by decide))
  clear hop hg3 PUH kc HB2 HR2
  go_wp2_with fail
  refine HPX.out.mono ?_
  rintro e w4 ⟨rfl, rfl⟩
  have r0 := cellO HR3.out 0
  have r1 := cellO HR3.out 1
  have r2 := cellO HR3.out 2
  have fz : ∀ i, w4.frozen? ⟨w.heap.size, i, none⟩ = false := fun i => by unfold World.frozen?; rw [HR3.out]; rfl
  have fz0 := fz 0
  have fz1 := fz 1
  have fz2 := fz 2
  simp at r0 r1 r2
  clear fz
  cases hpx : Lib.hasPrefix L headL with
  | false =>
    go_wp2_with fail
    obtain ⟨wz, hwz⟩ : ∃ wz, wz = (((w4.setCell ⟨w.heap.size, 0, none⟩ (.int .u64 0)).setCell ⟨w.heap.size, 1, none⟩ (.int .u64 0)).setCell ⟨w.heap.size, 2, none⟩ (.int .u64 0)) := ⟨_, rfl⟩
    rw [← hwz]
    have hrr := HR3.out
    have rz : wz.heap[w.heap.size]? = some (.cells #[.int .u64 0, .int .u64 0, .int .u64 0] 69 (0, 0)) := by rw [hwz, heap_setCell_same _ _ _ _ _ _ (heap_setCell_same _ _ _ _ _ _ (heap_setCell_same _ _ _ _ _ _ hrr))]; rfl
    have bz : Below w.heap.size w wz := by rw [hwz]; exact ((HB3.out.setCell (p := ⟨w.heap.size, 0, none⟩) (Nat.le_refl _) _).setCell (p := ⟨w.heap.size, 1, none⟩) (Nat.le_refl _) _).setCell (p := ⟨w.heap.size, 2, none⟩) (Nat.le_refl _) _
    have t0 := cellO rz 0
    have t1 := cellO rz 1
    have t2 := cellO rz 2
    simp at t0 t1 t2
    exact bodyPost_ret (v := .tuple #[.agg #[.int .u64 0, .int .u64 0, .int .u64 0], .int .i64 3]) (by simp [results, Tryd.results27, go_sem, t0, t1, t2]) rfl ⟨3, rfl, by decide, bz⟩
  | true =>
    have hp : BytesAt w4 (.slice (some ⟨b, o + 8, none⟩) 24 (cap - 8)) ((L.take 32).drop 8) := by
      have h := HV.out.later HB3.out
      rw [← hl] at h
      have h2 := bytes_part h (m := 8) (n := 32) (by omega) (by omega)
      simpa [Addr.add] using h2
    have UW := Lib.hid (unwords_yes _ _ 3 w4 hp (by simp; omega) (by omega))
    have ncap : ¬ cap = 8 := by omega
    clear hp
    go_wp2_with fail
    refine UW.out.mono ?_
    rintro e w5 ⟨u, rfl, hou, hg5⟩
    have HB5 := Lib.hid (HB3.out.trans (hg5.mono HB3.out.size))
    have HR5 := Lib.hid ((hg5.block w.heap.size (Array.getElem?_eq_some_iff.1 HR3.out).1).trans HR3.out)
    obtain ⟨ug, uc, rfl, hu1, hu2⟩ := World.ownsRow.form hou (by omega)
    have u0 := hou.cellAt 0 (by omega)
    have u1 := hou.cellAt 1 (by omega)
    have u2 := hou.cellAt 2 (by omega)
    obtain ⟨q0, q1, q2, hq⟩ : ∃ q0 q1 q2 : Nat, wordVals (wordsOf ((L.take 32).drop 8) 3) = [.int .u64 (q0 : Int), .int .u64 (q1 : Int), .int .u64 (q2 : Int)] := ⟨wordAt _ 0, wordAt _ 1, wordAt _ 2, rfl⟩
    rw [hq] at u0 u1 u2
    simp at u0 u1 u2
    clear hou hg5 UW hq r0 r1 r2 fz0 fz1 fz2
    go_upto_region 6 with fail
    go_cut [6] from 28 to 37 (fun s6 wx => ∃ P, s6 = .pointer (some ⟨P, 0, none⟩) ∧ w5.heap.size ≤ P ∧ wx.heap[P]? = some (.cells #[.int .u64 (q0 : Int), .int .u64 (q1 : Int), .int .u64 (q2 : Int)] 69 (0, 0)) ∧ Below w5.heap.size w5 wx)
    case first =>
      go_region
      all_goals (go_wp2_with fail)
      all_goals go_meet
      all_goals exact ⟨_, rfl, Nat.le_refl _, heap_alloc_new w5 _, ((Below.refl _ w5).alloc (Nat.le_refl _) _).drew⟩
    case rest =>
      obtain ⟨P, rfl, hP, hpq, hgx⟩ := hcut
      obtain ⟨w6, hw6⟩ : ∃ w6, w6 = wc := ⟨_, rfl⟩
      rw [← hw6] at hpq hgx ⊢
      clear hw6
      have HB6 := Lib.hid (HB5.out.trans (hgx.mono HB5.out.size))
      have HR6 := Lib.hid ((hgx.block w.heap.size (Array.getElem?_eq_some_iff.1 HR5.out).1).trans HR5.out)
      have c0 := cellO hpq 0
      have r0 := cellO HR6.out 0
      have r1 := cellO HR6.out 1
      have r2 := cellO HR6.out 2
      have fz : ∀ i, w6.frozen? ⟨w.heap.size, i, none⟩ = false := fun i => by unfold World.frozen?; rw [HR6.out]; rfl
      have fz0 := fz 0
      have fz1 := fz 1
      have fz2 := fz 2
      simp at c0 r0 r1 r2
      clear fz hpq hgx u0 u1 u2
      by_cases hA : (k : Int) < q0
      · go_wp2_with fail
        all_goals try (exfalso; go_light; omega)
        obtain ⟨wz, hwz⟩ : ∃ wz, wz = (((w6.setCell ⟨w.heap.size, 0, none⟩ (.int .u64 0)).setCell ⟨w.heap.size, 1, none⟩ (.int .u64 0)).setCell ⟨w.heap.size, 2, none⟩ (.int .u64 0)) := ⟨_, rfl⟩
        rw [← hwz]
        have hrr := HR6.out
        have rz : wz.heap[w.heap.size]? = some (.cells #[.int .u64 0, .int .u64 0, .int .u64 0] 69 (0, 0)) := by rw [hwz, heap_setCell_same _ _ _ _ _ _ (heap_setCell_same _ _ _ _ _ _ (heap_setCell_same _ _ _ _ _ _ hrr))]; rfl
        have bz : Below w.heap.size w wz := by rw [hwz]; exact ((HB6.out.setCell (p := ⟨w.heap.size, 0, none⟩) (Nat.le_refl _) _).setCell (p := ⟨w.heap.size, 1, none⟩) (Nat.le_refl _) _).setCell (p := ⟨w.heap.size, 2, none⟩) (Nat.le_refl _) _
        have t0 := cellO rz 0
        have t1 := cellO rz 1
        have t2 := cellO rz 2
        simp at t0 t1 t2
        exact bodyPost_ret (v := .tuple #[.agg #[.int .u64 0, .int .u64 0, .int .u64 0], .int .i64 4]) (by simp [results, Tryd.results27, go_sem, t0, t1, t2]) rfl ⟨4, rfl, by decide, bz⟩
      · by_cases hC : (q0 : Int) * 8 = 8 * k
        · have hv6 := HV.out.later HB6.out
          have hE : 36 + 8 * k = L.length := by omega
          have hg : BytesAt w6 (.slice (some ⟨b, o + (36 + 8 * k - 4), none⟩) (36 + 8 * k - (36 + 8 * k - 4)) (cap - (36 + 8 * k - 4))) (L.drop (L.length - 4)) := by
            rw [hE] at hv6
            have h2 := bytes_part hv6 (m := L.length - 4) (n := L.length) (by omega) (Nat.le_refl _)
            rw [List.take_length] at h2
            rw [hE]
            have e : (⟨b, o, none⟩ : Addr).add (L.length - 4) = ⟨b, o + (L.length - 4), none⟩ := by unfold Addr.add; rw [if_neg (by omega)]
            simpa [e] using h2
          have ht : BytesAt w6 (.slice (some ⟨b, o, none⟩) (36 + 8 * k - 4) cap) (L.take (L.length - 4)) := by
            rw [hE] at hv6 ⊢
            exact bytes_take hv6 (by omega)
          have GE := get_any _ _ 4 w6 hg
          have CR := crc_any _ _ w6 ht
          have hne : getN (L.drop (L.length - 4)) 4 ≠ crc (nats (L.take (L.length - 4))) := fun e => HBAD.out ⟨hpx, e⟩
          have hx4 := getN4_lt (L.drop (L.length - 4))
          obtain ⟨X, hX⟩ : ∃ X, getN (L.drop (L.length - 4)) 4 = X := ⟨_, rfl⟩
          obtain ⟨Z, hZ⟩ : ∃ Z, crc (nats (L.take (L.length - 4))) = Z := ⟨_, rfl⟩
          obtain ⟨ge, hge⟩ : ∃ ge : Int, (if clip8 4 ≤ (L.drop (L.length - 4)).length then (0 : Int) else 4) = ge := ⟨_, rfl⟩
          rw [hX, hge] at GE
          rw [hZ] at CR
          rw [hX] at hne hx4
          rw [hZ] at hne
          have q9 : ((X : Int) != (Z : Int)) = true := by rw [bne_iff_ne]; omega
          have q10 : ((X : Int) == (Z : Int)) = false := by rw [beq_eq_false_iff_ne]; omega
          have GEH := Lib.hid GE; have CRH := Lib.hid CR
          have hneI : ¬ (X : Int) = (Z : Int) := by omega
          clear hv6 hE hg ht GE CR hX hZ hge hne
          go_wp2_with fail
          all_goals try (exfalso; go_light; omega)
          refine GEH.out.mono ?_
          rintro e w7 ⟨rfl, rfl⟩
          go_wp2_with fail
          refine CRH.out.mono ?_
          rintro e w8 ⟨rfl, hg8⟩
          have HB8 := Lib.hid (HB6.out.trans (hg8.mono HB6.out.size))
          have HR8 := Lib.hid ((hg8.block w.heap.size (Array.getElem?_eq_some_iff.1 HR6.out).1).trans HR6.out)
          have r0 := cellO HR8.out 0
          have r1 := cellO HR8.out 1
          have r2 := cellO HR8.out 2
          have fz : ∀ i, w8.frozen? ⟨w.heap.size, i, none⟩ = false := fun i => by unfold World.frozen?; rw [HR8.out]; rfl
          have fz0 := fz 0
          have fz1 := fz 1
          have fz2 := fz 2
          simp at r0 r1 r2
          clear fz hg8
          go_wp2_with fail
          obtain ⟨wz, hwz⟩ : ∃ wz, wz = (((w8.setCell ⟨w.heap.size, 0, none⟩ (.int .u64 0)).setCell ⟨w.heap.size, 1, none⟩ (.int .u64 0)).setCell ⟨w.heap.size, 2, none⟩ (.int .u64 0)) := ⟨_, rfl⟩
          rw [← hwz]
          have hrr := HR8.out
          have rz : wz.heap[w.heap.size]? = some (.cells #[.int .u64 0, .int .u64 0, .int .u64 0] 69 (0, 0)) := by rw [hwz, heap_setCell_same _ _ _ _ _ _ (heap_setCell_same _ _ _ _ _ _ (heap_setCell_same _ _ _ _ _ _ hrr))]; rfl
          have bz : Below w.heap.size w wz := by rw [hwz]; exact ((HB8.out.setCell (p := ⟨w.heap.size, 0, none⟩) (Nat.le_refl _) _).setCell (p := ⟨w.heap.size, 1, none⟩) (Nat.le_refl _) _).setCell (p := ⟨w.heap.size, 2, none⟩) (Nat.le_refl _) _
          have t0 := cellO rz 0
          have t1 := cellO rz 1
          have t2 := cellO rz 2
          simp at t0 t1 t2
          exact bodyPost_ret (v := .tuple #[.agg #[.int .u64 0, .int .u64 0, .int .u64 0], .int .i64 5]) (by simp [results, Tryd.results27, go_sem, t0, t1, t2]) rfl ⟨5, rfl, by decide, bz⟩
        · go_wp2_with fail
          all_goals try (exfalso; go_light; omega)
          obtain ⟨wz, hwz⟩ : ∃ wz, wz = (((w6.setCell ⟨w.heap.size, 0, none⟩ (.int .u64 0)).setCell ⟨w.heap.size, 1, none⟩ (.int .u64 0)).setCell ⟨w.heap.size, 2, none⟩ (.int .u64 0)) := ⟨_, rfl⟩
          rw [← hwz]
          have hrr := HR6.out
          have rz : wz.heap[w.heap.size]? = some (.cells #[.int .u64 0, .int .u64 0, .int .u64 0] 69 (0, 0)) := by rw [hwz, heap_setCell_same _ _ _ _ _ _ (heap_setCell_same _ _ _ _ _ _ (heap_setCell_same _ _ _ _ _ _ hrr))]; rfl
          have bz : Below w.heap.size w wz := by rw [hwz]; exact ((HB6.out.setCell (p := ⟨w.heap.size, 0, none⟩) (Nat.le_refl _) _).setCell (p := ⟨w.heap.size, 1, none⟩) (Nat.le_refl _) _).setCell (p := ⟨w.heap.size, 2, none⟩) (Nat.le_refl _) _
          have t0 := cellO rz 0
          have t1 := cellO rz 1
          have t2 := cellO rz 2
          simp at t0 t1 t2
          exact bodyPost_ret (v := .tuple #[.agg #[.int .u64 0, .int .u64 0, .int .u64 0], .int .i64 2]) (by simp [results, Tryd.results27, go_sem, t0, t1, t2]) rfl ⟨2, rfl, by decide, bz⟩
end Go.Proofs.YtaillinlbbhdkaaDoor
