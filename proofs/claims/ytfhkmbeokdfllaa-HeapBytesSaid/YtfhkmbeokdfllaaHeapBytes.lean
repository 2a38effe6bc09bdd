/- HeapBytes: another byte changes that byte alone: for every bytes, place and byte. -/
import Derived.Test.YtfhkmbeokdfllaaHeapT
import Derived.Test.YtfhkmbeokdfllaaHeapAwake
import Derived.Test.YtfhkmbeokdfllaaPackOpen
import Derived.Lib.MinMax
import Derived.ProofKit
import Derived.ChangeOld
import Derived.Deep.CutBlock
namespace Go.Proofs.Ytfhkmbeokdfllaa.heapBytes
open Go.ChangeShapes Go.WideShapes Go.ChangeAt Go.RowKit
set_option linter.unusedVariables false
def p1 : Nat := 4294967297
def M1 : Nat → Nat := fillM (put2 (fun _ => 0) 2 4 p1) 4 1 1
def M2 (n : Nat) : Nat → Nat := put2 M1 5 4 (n + 8589934592)
def M3 (n q : Nat) : Nat → Nat := fillM (put2 (M2 n) q 4 p1) (q + 2) 1 1
def S1 : Nat → Bool := setS 200 (fun _ => false) 2 true
def S2 : Nat → Bool := setS 200 S1 5 true
def S3 (q : Nat) : Nat → Bool := setS 200 S2 (q : Int) true
theorem pz1 : (packZ 1 ((1 : Nat) : Int) 0 false).toNat = p1 := by decide
theorem pz2 (n : Nat) : (packZ 2 n 0 false).toNat = n + 8589934592 := by
  have hp : packZ 2 n 0 false = ((n + 8589934592 : Nat) : Int) := by unfold packZ; rw [if_neg (by decide)]; omega
  rw [hp, Int.toNat_natCast]
theorem s2_eq : setS 200 S1 ((5 : Nat) : Int) true = S2 := rfl
theorem m2_eq (n : Nat) : put2 M1 5 4 (n + 8589934592) = M2 n := rfl
theorem s3_eq (q : Nat) : setS 200 S2 (q : Int) true = S3 q := rfl
theorem m3_eq (n q : Nat) : fillM (put2 (M2 n) q 4 p1) (q + 2) 1 1 = M3 n q := rfl
theorem ok1 : UnOK ((4 : Nat) : Int) (p1 : Int) := by unfold UnOK hS hK p1; decide
theorem k1 : hK (p1 : Int) ≠ 2 := by unfold hK p1; decide
theorem s1 : ((0 : Nat) : Int) < hS (p1 : Int) := by unfold hS p1; decide
/-- what a heap of the law holds beside the bytes -/
def Frame (n q : Nat) (M : Nat → Nat) : Prop := ∀ j, j < 7 ∨ q ≤ j → M j = M3 n q j
theorem frame_at {n q : Nat} {M : Nat → Nat} (h : Frame n q M) (hq : 7 ≤ q) : M 2 = 4 ∧ M 3 = p1 ∧ M 4 = 1 ∧ M q = 4 ∧ M (q + 1) = p1 ∧ M (q + 2) = 1 ∧ M 5 = 4 ∧ M 6 = n + 8589934592 := by
  refine ⟨?_, ?_, ?_, ?_, ?_, ?_, ?_, ?_⟩
  all_goals (rw [h _ (by omega)]; unfold M3 fillM put2 M2 put2 M1 fillM put2; repeat (first | rw [if_neg (by omega)] | rw [if_pos (by omega)]))
theorem s3_at {q : Nat} (hq : 7 ≤ q) (hq2 : q < 200) : S3 q 2 = true ∧ S3 q 5 = true ∧ S3 q q = true := by
  refine ⟨?_, ?_, ?_⟩
  · unfold S3 setS; rw [if_neg (by omega)]; decide
  · unfold S3 setS; rw [if_neg (by omega)]; decide
  · unfold S3 setS; rw [if_pos (by omega)]
theorem raw_ok {n q : Nat} {M : Nat → Nat} (h : Frame n q M) (hq : q = 7 + (n + 7) / 8) (hn : n ≤ 300) : IsRaw (S3 q) M 200 5 n := by
  obtain ⟨a2, a3, a4, aq, aq1, aq2, a5, a6⟩ := frame_at h (by omega)
  obtain ⟨b2, b5, bq⟩ := s3_at (q := q) (by omega) (by omega)
  refine ⟨by omega, by omega, b5, ?_, ?_, ?_⟩
  · rw [a5, a6]; unfold UnOK hS hK; refine ⟨by decide, by decide, by omega, by omega, by omega⟩
  · rw [a6]; unfold hK; omega
  · rw [a6]; unfold hS; omega
theorem frame_put {n q i c : Nat} {M : Nat → Nat} (h : Frame n q M) (hq : q = 7 + (n + 7) / 8) (hi : i < n) : Frame n q (putM M 5 i c) := by
  intro j hj
  unfold putM
  rw [if_neg (by omega)]
  exact h j hj
theorem byte_put {M : Nat → Nat} {i j c : Nat} (hc : c < 256) : byteIn (putM M 5 i c (5 + 2 + j / 8)) (j % 8) = if j = i then c else byteIn (M (5 + 2 + j / 8)) (j % 8) := by
  unfold putM
  by_cases h : j / 8 = i / 8
  · rw [if_pos (by omega), putIn_byte _ _ _ _ hc (by omega) (by omega)]
    by_cases e : j = i
    · rw [if_pos (by rw [e]), if_pos e]
    · rw [if_neg (by omega), if_neg e, h]
  · rw [if_neg (by omega), if_neg (by intro e; exact h (by rw [e]))]
theorem OwnsB.keeps {w w' : World} {B : Nat} {v : Value} {l : List UInt8} {T : TypeId} (h : OwnsB w B v l) (hk : KeepsBut T w w') (hT : 5 ≠ T) : OwnsB w' B v l := by
  unfold OwnsB at h ⊢
  obtain ⟨h0, h⟩ := h
  refine ⟨h0, ?_⟩
  rcases h with h | ⟨g, cap, cur, h1, h2, h3, h4⟩
  · exact Or.inl h
  · exact Or.inr ⟨g, cap, cur, h1, h2, by rw [hk g _ _ _ h3 hT]; exact h3, h4⟩
theorem OwnsB.typed {w : World} {B g n cap : Nat} {l : List UInt8} (h : OwnsB w B (.slice (some ⟨g, 0, none⟩) n cap) l) : ∃ c fr, w.heap[g]? = some (.cells c 5 fr) := by
  unfold OwnsB at h
  obtain ⟨h0, h⟩ := h
  rcases h with ⟨h, -⟩ | ⟨g', cap', cur, h1, h2, h3, h4⟩
  · cases h
  · injection h1 with h1 _ _
    injection h1 with h1
    injection h1 with h1 _ _
    subst h1
    exact ⟨cur, _, h3⟩
theorem raw_eq {M : Nat → Nat} {n : Nat} {L : List UInt8} (hl : L.length = n) (h : ∀ j (hj : j < n), byteIn (M (5 + 2 + j / 8)) (j % 8) = (L[j]'(by omega)).toNat) : rawL M 5 n = L := by
  refine List.ext_getElem (by rw [rawL_len, hl]) fun i h1 h2 => ?_
  have hh := h i (by omega)
  have e : (rawL M 5 n)[i] = UInt8.ofNat (byteIn (M (5 + 2 + i / 8)) (i % 8)) := by simp [rawL]
  rw [e, hh]
  simp
theorem get_one (B h n q a : Nat) (M : Nat → Nat) (w : World) (H : HeapAt w B h 200 (q + 3) (S3 q) M) (hF : Frame n q M) (q1 : 7 ≤ q) (q2 : q ≤ 45) (ha : a = 2 ∨ a = q) :
    Calls Try.prog 15 #[.pointer (some ⟨h, 0, none⟩), .int .u64 (a * 2 : Int), .int .i64 0] w fun e w' => e = .returned (.tuple #[.int .u64 1, .int .i64 0]) ∧ Below w.heap.size w w' := by
  obtain ⟨a2, a3, a4, aq, aq1, aq2, a5, a6⟩ := frame_at hF q1
  obtain ⟨b2, b5, bq⟩ := s3_at q1 (by omega)
  rcases ha with rfl | rfl
  · have := hget_yes B h 200 (q + 3) 2 0 (S3 q) M w H (by omega) (by omega) b2 (by rw [a2, a3]; exact ok1) (by rw [a3]; exact k1) (by rw [a3]; exact s1)
    rw [show 2 + 2 + 0 = 4 from rfl, a4] at this
    exact this
  · have := hget_yes B h 200 (a + 3) a 0 (S3 a) M w H (by omega) (by omega) bq (by rw [aq, aq1]; exact ok1) (by rw [aq1]; exact k1) (by rw [aq1]; exact s1)
    rw [show a + 2 + 0 = a + 2 from rfl, aq2] at this
    exact this
theorem check4 {k : Int} {n : Nat} (h0 : 0 ≤ k) (h1 : k ≤ 2) (hn : n ≤ 1048576) : checkZ 4 k n 0 = 0 := by
  rw [checkZ_ok]; exact ⟨by decide, by decide, by omega, by omega, by decide, h0, by omega⟩
set_option maxRecDepth 100000 in
set_option maxHeartbeats 2000000 in
theorem walk (v : Value) (l : List UInt8) (x : Int) (c : Nat) (w : World) (h : BytesAt w v l) (hx : (Lit.int .i64 x).wf = true) (hc : c < 256) :
    Calls Try.prog 4 #[v, .int .i64 x, .int .u8 (c : Int)] w fun e w' => e = .returned (.bool true) ∧ Below w.heap.size w w' := by
  have bx := bounds_i64 hx
  have H := Lib.hid h
  obtain ⟨a, cap, rfl, hl1, hl2, -, -⟩ := h
  unfold maxLen at hl2
  have NW := Lib.hid (fun W => new_yes 200 (by omega) (by omega) W)
  go_enter Try.func4, Try.ntmps4
  go_wp2_with fail
  refine (awake4 _).mono ?_
  rintro e w1 ⟨rfl, hg⟩
  have H1 := Lib.hid (H.out.later hg)
  have HG1 := Lib.hid hg; clear hg
  go_upto_if 27 with fail
  go_cut [0] from 25 to 30 (fun s0 wx => s0 = .slice a (l.take 300).length cap ∧ wx = w1)
  case first =>
    by_cases hlong : 300 < l.length
    · have hlt : (l.take 300).length = 300 := by rw [List.length_take]; omega
      go_wp2_with fail
      all_goals (try (exfalso; go_light; omega))
      all_goals go_meet
      all_goals (rw [hlt]; exact ⟨rfl, rfl⟩)
    · have hlt : (l.take 300).length = l.length := by rw [List.length_take]; omega
      go_wp2_with fail
      all_goals (try (exfalso; go_light; omega))
      all_goals go_meet
      all_goals (rw [hlt]; exact ⟨rfl, rfl⟩)
  case rest =>
    obtain ⟨rfl, hwc⟩ := hcut
    subst hwc
    have HB := Lib.hid (show BytesAt wc (.slice a (l.take 300).length cap) (l.take 300) from by
      by_cases hlong : 300 ≤ l.length
      · have := bytes_take H1.out hlong
        rwa [show (l.take 300).length = 300 by rw [List.length_take]; omega]
      · rw [List.take_of_length_le (by omega)]; exact H1.out)
    have hm : (l.take 300).length ≤ 300 := by rw [List.length_take]; omega
    have hmc : (l.take 300).length ≤ cap := by rw [List.length_take]; omega
    clear H H1
    generalize l.take 300 = m at *
    clear hl1
    go_wp2_with fail
    refine (NW.out wc).mono ?_
    rintro e w2 ⟨h, rfl, hh, hg⟩
    have HH2 := Lib.hid hh; have HG2 := Lib.hid hg
    have HB2 := Lib.hid (HB.out.later hg)
    clear hh hg
    have HLB := Lib.hid (fun wr (hw : Below wc.heap.size wc wr) => show BytesAt wr (.slice a m.length cap) m from HB.out.later hw)
    have HGL := Lib.hid (fun wr (hw : Below wc.heap.size wc wr) => HG1.out.trans (hw.mono HG1.out.size))
    have HSZ := Lib.hid (fun wr (hw : Below wc.heap.size wc wr) => hw.size)
    generalize hBB : wc.heap.size = B at *
    have HBB := Lib.hid hBB; clear hBB
    obtain ⟨n, hn⟩ : ∃ n, m.length = n := ⟨_, rfl⟩
    rw [hn] at HLB HB2 hm hmc
    obtain ⟨q, hq⟩ : ∃ q, q = 7 + (n + 7) / 8 := ⟨_, rfl⟩
    have q1 : 7 ≤ q := by omega
    have q2 : q ≤ 45 := by omega
    have RO := Lib.hid (fun M (hF : Frame n q M) => raw_ok hF hq (by omega))
    have FP := Lib.hid (fun (i d : Nat) M (hF : Frame n q M) (hi : i < n) => frame_put (c := d) hF hq hi)
    have HQ := Lib.hid hq; clear hq
    have A1 := Lib.hid (show Calls Try.prog 8 #[.pointer (some ⟨h, 0, none⟩), .int .u64 4, .int .i64 1, .int .i64 1, .int .u64 1] w2 fun e w' => e = .returned (.tuple #[.int .u64 4, .int .i64 0]) ∧ HeapAt w' B h 200 5 S1 M1 ∧ Below B w2 w' from by
      have := alloc_slots B h 200 2 4 1 1 1 _ _ w2 HH2.out (HSZ.out w2 HG2.out) (by omega) (check4 (by omega) (by omega) (by omega)) (by omega) (by omega) (by omega) (by omega)
      rw [pz1] at this
      exact this)
    go_wp2_with fail
    refine A1.out.mono ?_
    rintro e w3 ⟨rfl, hh, hg⟩
    have HH3 := Lib.hid hh
    have HG3 := Lib.hid (HG2.out.trans hg)
    clear hh hg A1
    have A2 := Lib.hid (show Calls Try.prog 8 #[.pointer (some ⟨h, 0, none⟩), .int .u64 4, .int .i64 2, .int .i64 (n : Int), .int .u64 0] w3 fun e w' => e = .returned (.tuple #[.int .u64 10, .int .i64 0]) ∧ HeapAt w' B h 200 q S2 (M2 n) ∧ Below B w3 w' from by
      have := alloc_raw B h 200 5 4 n 0 _ _ w3 HH3.out (HSZ.out w3 HG3.out) (by omega) (check4 (by omega) (by omega) (by omega)) (by omega) (by omega)
      have hq := HQ.out
      rw [pz2, s2_eq, m2_eq, show 5 + 2 + (n + 7) / 8 = q by omega, show (((5 : Nat) : Int) * 2) = 10 from rfl, show ((4 : Nat) : Int) = 4 from rfl, show ((0 : Nat) : Int) = 0 from rfl] at this
      exact this)
    go_wp2_with fail
    refine A2.out.mono ?_
    rintro e w4 ⟨rfl, hh, hg⟩
    have HH4 := Lib.hid hh
    have HG4 := Lib.hid (HG3.out.trans hg)
    clear hh hg A2
    have A3 := Lib.hid (show Calls Try.prog 8 #[.pointer (some ⟨h, 0, none⟩), .int .u64 4, .int .i64 1, .int .i64 1, .int .u64 1] w4 fun e w' => e = .returned (.tuple #[.int .u64 (q * 2 : Int), .int .i64 0]) ∧ HeapAt w' B h 200 (q + 3) (S3 q) (M3 n q) ∧ Below B w4 w' from by
      have := alloc_slots B h 200 q 4 1 1 1 _ _ w4 HH4.out (HSZ.out w4 HG4.out) (by omega) (check4 (by omega) (by omega) (by omega)) (by omega) (by omega) (by omega) (by omega)
      rw [pz1, s3_eq, m3_eq, show q + 2 + 1 = q + 3 from rfl, show ((4 : Nat) : Int) = 4 from rfl, show ((1 : Nat) : Int) = 1 from rfl] at this
      exact this)
    go_wp2_with fail
    refine A3.out.mono ?_
    rintro e w5 ⟨rfl, hh, hg⟩
    have HH5 := Lib.hid hh
    have HG5 := Lib.hid (HG4.out.trans hg)
    clear hh hg A3
    have PY := Lib.hid (fun (i d : Nat) M W (HW : HeapAt W B h 200 (q + 3) (S3 q) M) (hF : Frame n q M) (hB : B ≤ W.heap.size) (hi : i < n) (hd : d < 256) => putByte_yes B h 200 (q + 3) 5 n i d _ M W HW hB (RO.out M hF) hi hd)
    have hBT := Lib.hid (fun i (hi : i < n) => (m[i]'(by omega)).toNat_lt)
    go_upto_block 0 with fail
    go_cut [14] from 63 to 75 (fun s14 wr => ∃ M, HeapAt wr B h 200 (q + 3) (S3 q) M ∧ Frame n q M ∧ (∀ j (hj : j < n), byteIn (M (5 + 2 + j / 8)) (j % 8) = (m[j]'(by omega)).toNat) ∧ Below B wc wr)
    case first =>
      go_wp2_with fail
      go_loopg [63, 14] n (fun gg s63 s14 wr => ∃ (k : Nat) (M : Nat → Nat), gg = n - k ∧ k ≤ n ∧ s63 = .int .i64 k ∧ HeapAt wr B h 200 (q + 3) (S3 q) M ∧ Frame n q M ∧ (∀ j (hj : j < n), j < k → byteIn (M (5 + 2 + j / 8)) (j % 8) = (m[j]'(by omega)).toNat) ∧ Below B wc wr)
      case atStart => exact ⟨0, _, rfl, by omega, rfl, HH5.out, fun j _ => rfl, fun j _ hj => absurd hj (by omega), HG5.out⟩
      case round =>
        obtain ⟨k, M, hgk, hk, rfl, hh, hF, hby, hg⟩ := hrel
        have HK := Lib.hid hgk; have HF := Lib.hid hF; have HG := Lib.hid hg; have HBy := Lib.hid hby
        clear hgk hby
        by_cases hgo : k < n
        · obtain ⟨la', lcap', hla', -, -, hget⟩ := (HLB.out wr hg).get
          injection hla' with hla1 hla2 hla3
          subst hla1 hla3
          obtain ⟨gb, go, hgq, hgl, hgc⟩ := hget k (by omega)
          subst hgq
          clear hget hla2
          have P := Lib.hid (PY.out k _ M wr hh hF (HSZ.out wr hg) hgo (hBT.out k hgo))
          have HF' := Lib.hid (FP.out k (m[k]'(by omega)).toNat M hF hgo)
          have HBy' := Lib.hid (show ∀ j (hj : j < n), j < k + 1 → byteIn (putM M 5 k (m[k]'(by omega)).toNat (5 + 2 + j / 8)) (j % 8) = (m[j]'(by omega)).toNat from by
            intro j hj hjk
            rw [byte_put (hBT.out k hgo)]
            by_cases e : j = k
            · subst e; rw [if_pos rfl]
            · rw [if_neg e]; exact HBy.out j hj (by omega))
          clear hh hF hg
          generalize hmk : (m[k]'(by omega)).toNat = mk at *
          have HMK := Lib.hid hmk; clear hmk
          go_wp2_with fail
          refine P.out.mono ?_
          rintro e w6 ⟨rfl, hh6, hg6, -⟩
          have HH6 := Lib.hid hh6
          have HG6 := Lib.hid (HG.out.trans hg6)
          clear hh6 hg6
          go_wp2_with fail
          go_roundg (n - (k + 1))
          case measure => rw [HK.out]; omega
          case rel => exact ⟨k + 1, _, rfl, by omega, by go_num, HH6.out, HF'.out, by rw [← HMK.out]; exact HBy'.out, HG6.out⟩
        · go_wp2_with fail
          all_goals (try (exfalso; go_light; omega))
          go_meet
          exact ⟨M, hh, HF.out, fun j hj => HBy.out j hj (by omega), HG.out⟩
    case rest =>
      obtain ⟨M, hh, hF, hby, hg⟩ := hcut
      obtain ⟨wr, hwr⟩ : ∃ z, z = wc := ⟨_, rfl⟩
      subst hwr
      have HF := Lib.hid hF; have HBy := Lib.hid hby; have HG := Lib.hid hg
      have hBs : B ≤ wr.heap.size := HSZ.out wr hg
      have HL := Lib.hid (HLB.out wr hg)
      have HH := Lib.hid hh
      clear hh hF hby hg
      go_wp2_with fail
      refine (copy_any _ m wr HL.out (by omega)).mono ?_
      rintro e w6 ⟨v6, rfl, ho, hg6⟩
      have HO6 := Lib.hid ho
      have HH6 := Lib.hid (HH.out.later hg6)
      have HG6 := Lib.hid (HG.out.trans (hg6.mono hBs))
      have hB6 : B ≤ w6.heap.size := HSZ.out w6 HG6.out
      have hB7 : wr.heap.size ≤ w6.heap.size := hg6.size
      clear ho hg6
      by_cases hin : 0 ≤ x ∧ x < n
      · obtain ⟨hin0, hin1⟩ := hin
        obtain ⟨i, rfl⟩ := Int.eq_ofNat_of_zero_le hin0
        have hi : i < n := by omega
        have P := Lib.hid (PY.out i c _ w6 HH6.out HF.out hB6 hi hc)
        go_wp2_with fail
        all_goals (try (exfalso; go_light; omega))
        refine P.out.mono ?_
        rintro e w7 ⟨rfl, hh, hg, hk⟩
        have HH7 := Lib.hid hh
        have HG7 := Lib.hid (HG6.out.trans hg)
        have HO7 := Lib.hid (OwnsB.keeps HO6.out hk (by decide))
        clear hh hg hk P
        obtain ⟨g, c5, rfl, hgB, hgl, h51, h52⟩ := ownsB_form HO7.out (by omega)
        have hcg := ownsB_cell HO7.out i (by omega)
        have hfg := World.ownsRow.frozenAt HO7.out i
        have hcn : (UInt8.ofNat c).toNat = c := by simp; omega
        have HO8 := Lib.hid (bytes_of_owns (ownsB_set HO7.out i (UInt8.ofNat c)))
        have HK8 := Lib.hid ((KeepsBut.refl 5 w7).setCell (a := ⟨g, i, none⟩) (u := .int .u8 (c : Int)) (OwnsB.typed HO7.out))
        have HG8 := Lib.hid (HG7.out.setCell (p := ⟨g, i, none⟩) (show B ≤ g by omega) (.int .u8 (c : Int)))
        have HLt := Lib.hid (show rawL (putM M 5 i c) 5 n = m.set i (UInt8.ofNat c) from by
          refine raw_eq (by rw [List.length_set, hn]) fun j hj => ?_
          rw [byte_put hc, List.getElem_set]
          by_cases e : j = i
          · rw [if_pos e, if_pos e.symm, hcn]
          · rw [if_neg e, if_neg (fun h => e h.symm), HBy.out j hj])
        rw [hcn] at HO8
        clear hcn
        have hgw := HO7.out
        clear hgw
        unfold maxLen at h52
        rw [hn] at HO8 h51
        go_upto_region 26 with fail
        all_goals (try (exfalso; go_light; omega))
        obtain ⟨wt, hwt⟩ : ∃ z, z = w7.setCell ⟨g, i, none⟩ (.int .u8 (c : Int)) := ⟨_, rfl⟩
        rw [← hwt] at HO8 HK8 HG8
        have HHt := Lib.hid (HH7.out.keeps HK8.out (by decide) (by decide) (by decide) (by decide))
        have HFt := Lib.hid (FP.out i c M HF.out hi)
        have HWt := HO8
        have HGt := HG8
        rw [← hwt]
        clear hwt
        go_upto_region 26 with fail
        have BY := Lib.hid (bytes_any B h 200 (q + 3) 5 n _ _ wt HHt.out (RO.out _ HFt.out) (by omega))
        rw [HLt.out, show ((5 : Nat) : Int) * 2 = 10 from rfl] at BY
        go_wp2_with fail
        refine BY.out.mono ?_
        rintro e w9 ⟨v9, rfl, hb9, hg9⟩
        have HB9 := Lib.hid hb9
        have HH9 := Lib.hid (HHt.out.later hg9)
        have HW9 := Lib.hid (HWt.out.later hg9)
        have HG9 := Lib.hid (HGt.out.trans (hg9.mono (HSZ.out wt HGt.out)))
        clear hb9 hg9 BY
        have G1 := Lib.hid (get_one B h n q 2 _ w9 HH9.out HFt.out q1 q2 (Or.inl rfl))
        rw [show ((2 : Nat) : Int) * 2 = 4 from rfl] at G1
        go_wp2_with fail
        refine G1.out.mono ?_
        rintro e w10 ⟨rfl, hg10⟩
        have HB10 := Lib.hid (HB9.out.later hg10)
        have HH10 := Lib.hid (HH9.out.later hg10)
        have HW10 := Lib.hid (HW9.out.later hg10)
        have HG10 := Lib.hid (HG9.out.trans (hg10.mono (HSZ.out w9 HG9.out)))
        clear hg10 G1
        have G2 := Lib.hid (get_one B h n q q _ w10 HH10.out HFt.out q1 q2 (Or.inr rfl))
        go_wp2_with fail
        refine G2.out.mono ?_
        rintro e w11 ⟨rfl, hg11⟩
        have RE := Lib.hid (requal_any _ _ _ _ w11 (HB10.out.later hg11) (HW10.out.later hg11))
        have HG11 := Lib.hid (HG10.out.trans (hg11.mono (HSZ.out w10 HG10.out)))
        rw [beq_self_eq_true] at RE
        clear hg11 G2
        go_wp2_with fail
        refine RE.out.mono ?_
        rintro e w12 ⟨rfl, rfl⟩
        have HF12 := Lib.hid (HGL.out w12 HG11.out)
        go_wp2_with fail
        go_ret
        exact ⟨rfl, HF12.out⟩
      · have P := Lib.hid (putByte_no B h 200 (q + 3) 5 n x c _ _ w6 HH6.out (RO.out M HF.out) hin)
        rw [show ((5 : Nat) : Int) * 2 = 10 from rfl] at P
        by_cases hx0 : 0 ≤ x
        · have hxn : ¬ x < n := by omega
          go_wp2_with fail
          all_goals (try (exfalso; go_light; omega))
          refine P.out.mono ?_
          rintro e wt ⟨rfl, hg⟩
          have HHt := Lib.hid (HH6.out.later hg)
          have HFt := HF
          have HWt := Lib.hid ((bytes_of_owns HO6.out).later hg)
          have HGt := Lib.hid (HG6.out.trans (hg.mono hB6))
          have HLt := Lib.hid (raw_eq hn HBy.out)
          clear hg P
          go_upto_region 26 with fail
          have BY := Lib.hid (bytes_any B h 200 (q + 3) 5 n _ _ wt HHt.out (RO.out _ HFt.out) (by omega))
          rw [HLt.out, show ((5 : Nat) : Int) * 2 = 10 from rfl] at BY
          go_wp2_with fail
          refine BY.out.mono ?_
          rintro e w9 ⟨v9, rfl, hb9, hg9⟩
          have HB9 := Lib.hid hb9
          have HH9 := Lib.hid (HHt.out.later hg9)
          have HW9 := Lib.hid (HWt.out.later hg9)
          have HG9 := Lib.hid (HGt.out.trans (hg9.mono (HSZ.out wt HGt.out)))
          clear hb9 hg9 BY
          have G1 := Lib.hid (get_one B h n q 2 _ w9 HH9.out HFt.out q1 q2 (Or.inl rfl))
          rw [show ((2 : Nat) : Int) * 2 = 4 from rfl] at G1
          go_wp2_with fail
          refine G1.out.mono ?_
          rintro e w10 ⟨rfl, hg10⟩
          have HB10 := Lib.hid (HB9.out.later hg10)
          have HH10 := Lib.hid (HH9.out.later hg10)
          have HW10 := Lib.hid (HW9.out.later hg10)
          have HG10 := Lib.hid (HG9.out.trans (hg10.mono (HSZ.out w9 HG9.out)))
          clear hg10 G1
          have G2 := Lib.hid (get_one B h n q q _ w10 HH10.out HFt.out q1 q2 (Or.inr rfl))
          go_wp2_with fail
          refine G2.out.mono ?_
          rintro e w11 ⟨rfl, hg11⟩
          have RE := Lib.hid (requal_any _ _ _ _ w11 (HB10.out.later hg11) (HW10.out.later hg11))
          have HG11 := Lib.hid (HG10.out.trans (hg11.mono (HSZ.out w10 HG10.out)))
          rw [beq_self_eq_true] at RE
          clear hg11 G2
          go_wp2_with fail
          refine RE.out.mono ?_
          rintro e w12 ⟨rfl, rfl⟩
          have HF12 := Lib.hid (HGL.out w12 HG11.out)
          go_wp2_with fail
          go_ret
          exact ⟨rfl, HF12.out⟩
        · have hxn : x < 0 := by omega
          go_wp2_with fail
          all_goals (try (exfalso; go_light; omega))
          refine P.out.mono ?_
          rintro e wt ⟨rfl, hg⟩
          have HHt := Lib.hid (HH6.out.later hg)
          have HFt := HF
          have HWt := Lib.hid ((bytes_of_owns HO6.out).later hg)
          have HGt := Lib.hid (HG6.out.trans (hg.mono hB6))
          have HLt := Lib.hid (raw_eq hn HBy.out)
          clear hg P
          go_upto_region 26 with fail
          have BY := Lib.hid (bytes_any B h 200 (q + 3) 5 n _ _ wt HHt.out (RO.out _ HFt.out) (by omega))
          rw [HLt.out, show ((5 : Nat) : Int) * 2 = 10 from rfl] at BY
          go_wp2_with fail
          refine BY.out.mono ?_
          rintro e w9 ⟨v9, rfl, hb9, hg9⟩
          have HB9 := Lib.hid hb9
          have HH9 := Lib.hid (HHt.out.later hg9)
          have HW9 := Lib.hid (HWt.out.later hg9)
          have HG9 := Lib.hid (HGt.out.trans (hg9.mono (HSZ.out wt HGt.out)))
          clear hb9 hg9 BY
          have G1 := Lib.hid (get_one B h n q 2 _ w9 HH9.out HFt.out q1 q2 (Or.inl rfl))
          rw [show ((2 : Nat) : Int) * 2 = 4 from rfl] at G1
          go_wp2_with fail
          refine G1.out.mono ?_
          rintro e w10 ⟨rfl, hg10⟩
          have HB10 := Lib.hid (HB9.out.later hg10)
          have HH10 := Lib.hid (HH9.out.later hg10)
          have HW10 := Lib.hid (HW9.out.later hg10)
          have HG10 := Lib.hid (HG9.out.trans (hg10.mono (HSZ.out w9 HG9.out)))
          clear hg10 G1
          have G2 := Lib.hid (get_one B h n q q _ w10 HH10.out HFt.out q1 q2 (Or.inr rfl))
          go_wp2_with fail
          refine G2.out.mono ?_
          rintro e w11 ⟨rfl, hg11⟩
          have RE := Lib.hid (requal_any _ _ _ _ w11 (HB10.out.later hg11) (HW10.out.later hg11))
          have HG11 := Lib.hid (HG10.out.trans (hg11.mono (HSZ.out w10 HG10.out)))
          rw [beq_self_eq_true] at RE
          clear hg11 G2
          go_wp2_with fail
          refine RE.out.mono ?_
          rintro e w12 ⟨rfl, rfl⟩
          have HF12 := Lib.hid (HGL.out w12 HG11.out)
          go_wp2_with fail
          go_ret
          exact ⟨rfl, HF12.out⟩
theorem own : ownKnob Try.prog.godebug = none := by kernel_rfl
theorem laidOut : laidOutB Try.prog = true := by kernel_rfl
set_option maxRecDepth 100000 in
theorem lifted (os : Os) (started : os.Started) (H : Type) (enc : TypeId × Value → H) :
    ReturnsInHanded {} Try.checked os 4 .any (Rows.heapBytesSpec.pre6 enc Try.prog Try.f4 Rows.heapBytesRow.domain false) (Rows.heapBytesSpec.post enc Try.prog Try.f4 false true false false) := by
  refine returnsInHanded_of_change (C := Try.checked) own started (by kernel_rfl) Try.func4
    (ChangeSpec.witness6 (enc := enc) (C := Try.checked) false ⟨#[], #[.slice none 0 0, .int .i64 0, .int .u8 0], []⟩ 8 (by kernel_rfl) (by kernel_rfl) (by kernel_rfl) (by kernel_rfl)) ?_
  intro W base args ds gs before hval0 hW hcnd _
  have hval : ∀ (j : Nat) t v, Try.f4.params[j]? = some t → args[j]? = some v → Value.okWide Try.prog W .any base t v := hval0
  have hW' := hW
  obtain ⟨p, q, hA0, hV, rfl, hfz, hnd⟩ := hW
  have hA : DataW.TrodAll enc Try.prog W 0 (fun _ => true) true Try.f4.params.toList args.toList ds p := hA0
  rw [Try.params4] at hA hval
  obtain ⟨v0, vs0, d0, ds0, p0, q0, hargs, rfl, rfl, h0, r0⟩ := trodAll_cons hA
  obtain ⟨v1, vs1, d1, ds1, p1, q1, rfl, rfl, rfl, h1, r1⟩ := trodAll_cons r0
  obtain ⟨v2, vs2, d2, ds2, p2, q2, rfl, rfl, rfl, h2, r2⟩ := trodAll_cons r1
  obtain ⟨rfl, rfl, rfl⟩ := trodAll_nil r2
  obtain rfl : args = #[v0, v1, v2] := by cases args; simp_all
  obtain ⟨rfl, rfl⟩ := trodVars_none hV
  have k0 := h0
  have lt0 : ∀ x ∈ p0, x.block < W.heap.size := by obtain ⟨m, hm⟩ := k0; exact DataW.trod_lt m _ _ _ hm
  have k1 := h1
  have lt1 : ∀ x ∈ p1, x.block < W.heap.size := by obtain ⟨m, hm⟩ := k1; exact DataW.trod_lt m _ _ _ hm
  have k2 := h2
  have lt2 : ∀ x ∈ p2, x.block < W.heap.size := by obtain ⟨m, hm⟩ := k2; exact DataW.trod_lt m _ _ _ hm
  obtain ⟨l, hl⟩ := open_bytes (hval 0 35 v0 rfl rfl) h0
  obtain ⟨n, rfl, -, -, hn⟩ := open_int Try.underlying3 (hval 1 3 v1 rfl rfl) h1
  obtain ⟨c, rfl, -, -, hc⟩ := open_int Try.underlying5 (hval 2 5 v2 rfl rfl) h2
  have bc := bounds_u8 hc
  obtain ⟨d, rfl⟩ := Int.eq_ofNat_of_zero_le bc.1
  clear hA0 hval0
  refine (walk v0 l n d W hl hn (by omega)).mono fun e W' ⟨he, bel⟩ => ?_
  subst he
  exact ⟨_, rfl, _, _, _, [], _, [], hW', trodAll_mk1 (shut_bool Try.underlying4 _), (trodAll_cons_mk (Below.trod laidOut (by kernel_rfl) (of_decide_eq_true (by kernel_rfl)) k0 bel lt0) (trodAll_cons_mk (Below.trod laidOut (by kernel_rfl) (of_decide_eq_true (by kernel_rfl)) k1 bel lt1) (trodAll_cons_mk (Below.trod laidOut (by kernel_rfl) (of_decide_eq_true (by kernel_rfl)) k2 bel lt2) trodAll_mk0))), rfl, bel.frame _, fun h => by cases h⟩
theorem over : Rows.heapBytesRow.holds Try.pinned (OpenSpec.ofChange Rows.heapBytesSpec) :=
  OpenClaim.holds_of_wide 4 Try.f4 rfl rfl rfl rfl rfl rfl rfl ⟨rfl, rfl, rfl, rfl, rfl⟩ rfl rfl rfl rfl rfl (by kernel_rfl) Try.func4 (by kernel_rfl)
    (of_decide_eq_true (by kernel_rfl)) (by unfold Func.isWrapper; rw [if_neg (by decide +kernel)]; exact ⟨rfl, rfl⟩)
    (fun os started H enc _ => lifted os started H enc)
theorem proved : Rows.HeapBytesSaid := over
end Go.Proofs.Ytfhkmbeokdfllaa.heapBytes
