/- The texts of a map, sorted: all are keys of it. The town's memory while the law lays it: what stays, what grows, and the steps by their names. -/
import Derived.Test.YtibopjjicfiimaaGreatDoorTownL
import Derived.Maps.RangeWalk
import Derived.Deep.RegionLaw
import Derived.Deep.CutBlock
import Derived.Deep.CutRange
namespace Go.Proofs.YtibopjjicfiimaaGreatDoor
open Go.RowKit Go.Maps
set_option linter.unusedVariables false
theorem strInfoT : (Tryz.prog.info? 9).map (fun i => (i.zero, i.size, i.bytes)) = some (some (.string ⟨#[]⟩), 1, 16) := by kernel_rfl
theorem keyOf_str_inv {P : Program} {k : TypeId} (hk : P.underlying k = some .string) {key : Value} {kl : Lit} (h : keyOf P k key = some kl) : ∃ x : ByteArray, key = .string x ∧ kl = .string x.data.toList ∧ x.size ≤ maxLen := by
  cases key <;> simp [keyOf, hk, mapKey] at h
  obtain ⟨hw, rfl⟩ := h
  exact ⟨_, rfl, rfl, hw⟩
def strV (ts : List ByteArray) : List Value := ts.map Value.string
theorem strV_length (ts : List ByteArray) : (strV ts).length = ts.length := by simp [strV]
theorem strV_ones (ts : List ByteArray) : ∀ u ∈ strV ts, u.oneCell' = true := by
  intro u hu
  simp only [strV, List.mem_map] at hu
  obtain ⟨x, _, rfl⟩ := hu
  rfl
theorem strV_get {ts : List ByteArray} {k : Nat} (h : k < ts.length) : (strV ts)[k]? = some (.string ts[k]) := by
  unfold strV
  rw [List.getElem?_map, List.getElem?_eq_getElem h]
  rfl
theorem owns_cells {w : World} {B e n g c : Nat} {ts : List ByteArray} (h : w.ownsRow B e 1 (.slice (some ⟨g, 0, none⟩) n c) n (strV ts)) : ∀ j u, (strV ts)[j]? = some u → w.cell? ⟨g, j, none⟩ = some u := by
  intro j u hj
  have := h.cells (g := g) rfl j u hj
  cases j with
  | zero => simpa [Addr.add] using this
  | succ j => simpa [Addr.add] using this
set_option maxRecDepth 100000 in
set_option maxHeartbeats 3200000 in
theorem tsorted_any (b n : Nat) (f : List UInt8 → Option Nat) (w : World) (hm : MapS 30 w b f n) (hn : n ≤ 1000) :
    Calls Tryz.prog 18 #[.map (some b)] w fun e w' => ∃ (v : Value) (ts : List ByteArray), e = .returned v ∧ w'.ownsRow w.heap.size 9 1 v ts.length (strV ts) ∧ (∀ t ∈ ts, (f t.data.toList).isSome = true ∧ t.size ≤ maxLen) ∧ ts.length ≤ n ∧ Below w.heap.size w w' := by
  obtain ⟨i0, hi0, hz0, hz1, hz2⟩ := info_parts strInfoT
  obtain ⟨D, hown, hD, hhas, -⟩ := hm
  have hsz := hown.size_le
  have hbl := hown.lt
  have HH := Lib.hid hhas
  have HOWN := Lib.hid hown
  clear hhas hD hown
  go_enter Tryz.func18, Tryz.ntmps18
  go_wp2_with (first
    | (at_range; refine wpList_range_own _ rfl _ 50 rfl 9 30 keyS Tryz.underlying50 _ b n _ rfl HOWN.out ?_; intro w0 hrg0 hg0 hs0)
    | fail)
  have HRG0 := Lib.hid hrg0
  have HB0 := Lib.hid (show Below w.heap.size w w0 from ⟨hg0.os, hg0.tape, hg0.output, hg0.size, fun k hk => hg0.block k hk (by simp)⟩)
  clear hrg0 hg0
  have hz0' : w.heap.size < w0.heap.size := by omega
  have HS0 := Lib.hid hs0
  clear hs0
  go_frame
  go_loopg [3] (Maps.size D) (fun gg s3 wr => ∃ (left : Lit → Bool) (ts : List ByteArray), wr.ranges Tryz.prog 9 (plainElem (H := Unit) Tryz.prog 30) b w.heap.size n D left gg ∧ (∀ kl, left kl = true → has D kl = true) ∧ wr.ownsRow w0.heap.size 9 1 s3 ts.length (strV ts) ∧ (ts = [] → s3 = .slice none 0 0) ∧
      (∀ t ∈ ts, (f t.data.toList).isSome = true ∧ t.size ≤ maxLen) ∧ ts.length + gg ≤ n ∧ Below w.heap.size w wr ∧ w0.heap.size ≤ wr.heap.size)
  case atStart => exact ⟨_, [], HRG0.out, fun _ h => h, World.ownsRow_nil _ _ _ _, fun _ => rfl, (fun t ht => by cases ht), by simpa using hsz, HB0.out, Nat.le_refl _⟩
  case round =>
    obtain ⟨left, ts, hrg, hlf, hro, hnil, hts, hcn, hbr, hzr⟩ := hrel
    have HRG := Lib.hid hrg; have HLF := Lib.hid hlf; have HRO := Lib.hid hro; have HNIL := Lib.hid hnil; have HTS := Lib.hid hts; have HBR := Lib.hid hbr
    clear hrg hlf hnil hts hbr
    obtain ⟨oa, on, oc, rfl⟩ := owns_slice hro
    clear hro
    go_wp2_with (first
      | (at_next; refine wpList_next_ranges _ rfl _ rfl 9 keyS (plainElem (H := Unit) Tryz.prog 30) Value.string (Value.int .u64) (fun key kl h => by obtain ⟨x, rfl, -⟩ := keyOf_str_inv Tryz.underlying9 h; exact ⟨x, rfl⟩) (fun v y hv => by obtain ⟨c, rfl, -⟩ := plainElem_int_inv Tryz.underlying30 hv; exact ⟨c, rfl⟩) b w.heap.size n _ _ _ rfl HRG.out ?_ ?_)
      | fail)
    · intro _ _
      go_wp2_with fail
      go_ret
      exact ⟨_, ts, rfl, owns_mono HRO.out (by omega), HTS.out, by omega, HBR.out⟩
    · intro x c kl y1 y2 w1 cnt1 hkey hlk hv hat hrg1 hlt hg1 hs1 hen
      obtain ⟨x', hxe, hkl, hxs⟩ := keyOf_str_inv Tryz.underlying9 hkey
      obtain rfl : x = x' := by simpa using hxe
      have HX := Lib.hid (show (f x.data.toList).isSome = true ∧ x.size ≤ maxLen from ⟨by rw [← HH.out, ← hkl]; exact HLF.out kl hlk, hxs⟩)
      have HRG1 := Lib.hid hrg1
      have HLF1 := Lib.hid (show ∀ z, (left z && !z.sameKey kl) = true → has D z = true from fun z hz => HLF.out z (by simp at hz; exact hz.1))
      have hb1 : Below w.heap.size w w1 := HBR.out.grown hg1 HBR.out.size (fun q hq => by simp at hq; omega)
      have HB1 := Lib.hid hb1
      have hro1 : w1.ownsRow w0.heap.size 9 1 (.slice oa on oc) ts.length (strV ts) := HRO.out.kept hg1 (by
        by_cases h : (Value.slice oa on oc).ownBlock = none
        · exact Or.inl h
        · refine Or.inr fun e => ?_
          have := (HRO.out.lt w.heap.size e).1
          omega)
      have HRO1 := Lib.hid hro1
      have hz1' : w0.heap.size ≤ w1.heap.size := by omega
      clear hkey hlk hv hat hrg1 hg1 hs1 hxe hkl hb1 hxs hro1
      obtain ⟨wo, hwo⟩ : ∃ wo, wo = wr := ⟨_, rfl⟩
      subst hwo
      go_upto_block 2 with fail
      go_cut [5] from 8 to 37 (fun s5 wx => ∃ k : Nat, s5 = .int .i64 (k : Int) ∧ k ≤ ts.length ∧ wx = w1)
      case first =>
        go_wp2_with fail
        go_loopg [5] ts.length (fun gg s5 wq => ∃ k : Nat, gg = ts.length - k ∧ k ≤ ts.length ∧ s5 = .int .i64 (k : Int) ∧ wq = w1)
        case atStart => exact ⟨0, rfl, by omega, rfl, rfl⟩
        case round =>
          obtain ⟨k, hgk, hkt, rfl, hwe⟩ := hrel
          rw [hwe]
          have HGK := Lib.hid hgk
          clear hgk hwe
          by_cases hk : k < ts.length
          · obtain ⟨-, ⟨hv, h0⟩ | ⟨g, cap, cur, hv, -⟩⟩ := id HRO1.out
            · omega
            · simp only [Value.slice.injEq] at hv
              obtain ⟨rfl, rfl, rfl⟩ := hv
              have hc := owns_cells HRO1.out k _ (strV_get hk)
              have hkI : (k : Int) < (ts.length : Int) := by omega
              generalize ts[k] = t at *
              go_wp2_with fail
              · go_roundg (ts.length - (k + 1))
                case measure => rw [HGK.out]; omega
                case rel => exact ⟨k + 1, rfl, by omega, by go_num, rfl⟩
              · go_meet
                exact ⟨k, rfl, hkt, rfl⟩
          · obtain rfl : k = ts.length := by omega
            obtain rfl : on = ts.length := by
              obtain ⟨-, ⟨hv, h0⟩ | ⟨g, cap, cur, hv, -⟩⟩ := HRO1.out
              · simp only [Value.slice.injEq] at hv; omega
              · simp only [Value.slice.injEq] at hv; exact hv.2.1
            go_wp2_with fail
            go_meet
            exact ⟨ts.length, rfl, Nat.le_refl _, rfl⟩
      case rest =>
        obtain ⟨k, rfl, hkt, hwc⟩ := hcut
        subst hwc
        go_upto_region 8 with fail
        have hJ : on = ts.length := by
          obtain ⟨-, ⟨hv, h0⟩ | ⟨g, cap, cur, hv, -⟩⟩ := HRO1.out
          · simp only [Value.slice.injEq] at hv; omega
          · simp only [Value.slice.injEq] at hv; exact hv.2.1
        subst hJ
        obtain ⟨J, hJ⟩ : ∃ J, ts.length = J := ⟨_, rfl⟩
        have HJ := Lib.hid hJ
        rw [hJ] at hkt hcn HRO HRO1 ⊢
        clear hJ
        have hE : Tryz.prog.underlying 53 = some (.slice 9) := Tryz.underlying53
        have HOE := Lib.hid (show ((wc.alloc (.cells #[] 9)).drew).ownsRow wc.heap.size 9 1 (.slice (some ⟨wc.heap.size, 0, none⟩) 0 0) 0 [] from World.ownsRow_lit wc #[] 0 (Nat.le_refl _) (by decide) rfl)
        have HOES := Lib.hid (show (((wc.alloc (.cells #[] 9)).alloc (.cells #[.string x] 9)).drew).ownsRow wc.heap.size 9 1 (.slice (some ⟨wc.heap.size, 0, none⟩) 0 0) 0 [] from HOE.out.alloc _)
        have HOSE := Lib.hid (show (((wc.alloc (.cells #[.string x] 9)).alloc (.cells #[] 9)).drew).ownsRow wc.heap.size 9 1 (.slice (some ⟨wc.heap.size + 1, 0, none⟩) 0 0) 0 [] from by
          have := World.ownsRow_lit (base := wc.heap.size) (size := 1) (e := 9) (wc.alloc (.cells #[.string x] 9)) #[] 0 (by simp) (by decide) rfl
          simp at this
          exact this)
        have GE := Lib.hid (show Below wc.heap.size wc (wc.alloc (.cells #[] 9)).drew from ((Below.refl _ wc).alloc (Nat.le_refl _) _).drew)
        have GES := Lib.hid (show Below wc.heap.size wc ((wc.alloc (.cells #[] 9)).alloc (.cells #[.string x] 9)).drew from (((Below.refl _ wc).alloc (Nat.le_refl _) _).alloc (by simp) _).drew)
        have GSE := Lib.hid (show Below wc.heap.size wc ((wc.alloc (.cells #[.string x] 9)).alloc (.cells #[] 9)).drew from (((Below.refl _ wc).alloc (Nat.le_refl _) _).alloc (by simp) _).drew)
        have SES := Lib.hid (show ((wc.alloc (.cells #[] 9)).alloc (.cells #[.string x] 9)).drew.heap[wc.heap.size + 1]? = some (.cells #[.string x] 9 (0, 0)) from by
          have : ((wc.alloc (.cells #[] 9)).alloc (.cells #[.string x] 9)).heap[wc.heap.size + 1]? = some (.cells #[.string x] 9 (0, 0)) := by
            have := heap_alloc_new (wc.alloc (.cells #[] 9)) (.cells #[.string x] 9)
            simpa using this
          exact this)
        have SSE := Lib.hid (show ((wc.alloc (.cells #[.string x] 9)).alloc (.cells #[] 9)).drew.heap[wc.heap.size]? = some (.cells #[.string x] 9 (0, 0)) from by
          show ((wc.alloc (.cells #[.string x] 9)).alloc (.cells #[] 9)).heap[wc.heap.size]? = _
          rw [Below.heap_alloc _ _ _ (by simp)]
          exact heap_alloc_new wc _)
        have hJn : J ≤ 1000 := by omega
        have FIN := Lib.hid (show ∀ (ts' : List ByteArray) (v : Value) (W : World), W.ownsRow wc.heap.size 9 1 v (J + 1) (strV ts') → ts'.length = J + 1 → (∀ t ∈ ts', (f t.data.toList).isSome = true ∧ t.size ≤ maxLen) → Below wc.heap.size wc W →
            ∃ (left : Lit → Bool) (ts : List ByteArray), W.ranges Tryz.prog 9 (plainElem (H := Unit) Tryz.prog 30) b w.heap.size n D left cnt1 ∧ (∀ kl, left kl = true → has D kl = true) ∧ W.ownsRow w0.heap.size 9 1 v ts.length (strV ts) ∧ (ts = [] → v = .slice none 0 0) ∧
              (∀ t ∈ ts, (f t.data.toList).isSome = true ∧ t.size ≤ maxLen) ∧ ts.length + cnt1 ≤ n ∧ Below w.heap.size w W ∧ w0.heap.size ≤ W.heap.size from fun ts' v W h1 h2 h3 h4 => by
          refine ⟨_, ts', ?_, HLF1.out, ?_, fun h => ?_, h3, by omega, HB1.out.trans (h4.mono HB1.out.size), by have := h4.size; omega⟩
          · exact HRG1.out.kept (grown_of_below h4) (by simp) (by simp)
          · rw [h2]; exact owns_mono h1 hz1'
          · rw [h] at h2; simp at h2)
        by_cases hJ0 : J = 0
        · subst hJ0
          have hts0 : ts = [] := List.length_eq_zero_iff.1 HJ.out
          have hv := HNIL.out hts0
          simp only [Value.slice.injEq] at hv
          obtain ⟨rfl, -, rfl⟩ := hv
          obtain rfl : k = 0 := by omega
          have A3 := Lib.hid (show 0 + 1 ≤ maxLen by unfold maxLen; omega)
          have A4 := Lib.hid (show (0 + 1) * 16 ≤ 140737488355328 by omega)
          have HLS := Lib.hid (show ∀ t ∈ [x], (f t.data.toList).isSome = true ∧ t.size ≤ maxLen from fun t ht => by rw [List.mem_singleton.1 ht]; exact HX.out)
          go_region_law (first
            | (refine step_append_none rfl (.tmp 26) (.tmp 29) 53 rfl wc.heap.size 9 i0 1 hE hi0 (.slice (some ⟨wc.heap.size, 0, none⟩) 0 0) 0 [] (by rfl) HOE.out (by rfl) ?_)
            | (refine step_append_none rfl (.tmp 26) (.tmp 29) 53 rfl wc.heap.size 9 i0 1 hE hi0 (.slice (some ⟨wc.heap.size, 0, none⟩) 0 0) 0 [] (by rfl) HOES.out (by rfl) ?_)
            | (refine step_append_none rfl (.tmp 26) (.tmp 29) 53 rfl wc.heap.size 9 i0 1 hE hi0 (.slice (some ⟨wc.heap.size + 1, 0, none⟩) 0 0) 0 [] (by rfl) HOSE.out (by rfl) ?_)
            | (refine step_append_ownT rfl (.tmp 30) (.tmp 32) 53 rfl wc.heap.size 9 i0 _ 1 16 hE hi0 hz0 hz1 hz2 rfl (by decide) (.slice (some ⟨wc.heap.size, 0, none⟩) 0 0) 0 [] (by rfl) HOES.out ⟨wc.heap.size + 1, 0, none⟩ 1 1 (strV [x]) (by rfl) rfl (by intro j u hj; match j, hj with | 0, hj => (simp [strV] at hj; subst hj; simp [Addr.add])) (strV_ones _) A3.out A4.out GES.out.size ?_; intro vD wD hownD hgrD; obtain ⟨aD, nD, cD, rfl⟩ := owns_slice hownD; rw [Nat.zero_add, List.nil_append] at hownD; have HOD := Lib.hid hownD; have HBE := Lib.hid (GES.out.grown hgrD GES.out.size (fun q hq => by simp [Value.ownBlock] at hq; omega)); clear hownD hgrD)
            | (refine step_append_ownT rfl (.tmp 30) (.tmp 32) 53 rfl wc.heap.size 9 i0 _ 1 16 hE hi0 hz0 hz1 hz2 rfl (by decide) (.slice (some ⟨wc.heap.size + 1, 0, none⟩) 0 0) 0 [] (by rfl) HOSE.out ⟨wc.heap.size, 0, none⟩ 1 1 (strV [x]) (by rfl) rfl (by intro j u hj; match j, hj with | 0, hj => (simp [strV] at hj; subst hj; simp [Addr.add])) (strV_ones _) A3.out A4.out GSE.out.size ?_; intro vD wD hownD hgrD; obtain ⟨aD, nD, cD, rfl⟩ := owns_slice hownD; rw [Nat.zero_add, List.nil_append] at hownD; have HOD := Lib.hid hownD; have HBE := Lib.hid (GSE.out.grown hgrD GSE.out.size (fun q hq => by simp [Value.ownBlock] at hq; omega)); clear hownD hgrD)
            | (refine step_append_none rfl (.tmp 33) (.tmp 36) 53 rfl wc.heap.size 9 i0 1 hE hi0 (.slice aD nD cD) 1 (strV [x]) (by rfl) HOD.out (by rfl) ?_))
          all_goals (
            go_wp2_with fail
            go_frame
            go_roundg cnt1
            case measure => exact hlt
            case rel => exact FIN.out [x] _ _ HOD.out rfl HLS.out HBE.out)
        · obtain ⟨g, hg⟩ : ∃ g, oa = some ⟨g, 0, none⟩ := by
            obtain ⟨-, ⟨hv, h0⟩ | ⟨g, cap, cur, hv, -⟩⟩ := HRO1.out
            · omega
            · simp only [Value.slice.injEq] at hv; exact ⟨g, hv.1⟩
          subst hg
          have hoc : J ≤ oc ∧ oc ≤ 9223372036854775807 := by
            obtain ⟨-, ⟨hv, h0⟩ | ⟨g, cap, cur, hv, -, -, h1, h2, -⟩⟩ := HRO1.out
            · omega
            · simp only [Value.slice.injEq] at hv; unfold maxLen at h2; omega
          have SRC := Lib.hid (show ∀ W, Below wc.heap.size wc W → ∀ j u, (strV ts)[j]? = some u → W.cell? ⟨g, j, none⟩ = some u from fun W hW j u hj => (hW.cell (p := ⟨g, j, none⟩) (HRO1.out.lt g (by simp [Value.ownBlock])).2).trans (owns_cells HRO1.out j u hj))
          obtain ⟨hoc1, hoc2⟩ := hoc
          have hko : k ≤ oc := by omega
          obtain ⟨ad, had⟩ : ∃ ad : Addr, (if oc = k then (some ⟨g, 0, none⟩ : Option Addr) else some ⟨g, k, none⟩) = some ad ∧ (oc = k ∨ ad = ⟨g, k, none⟩) := by
            by_cases h : oc = k
            · exact ⟨_, if_pos h, Or.inl h⟩
            · exact ⟨_, if_neg h, Or.inr rfl⟩
          obtain ⟨hif, had⟩ := had
          have LK := Lib.hid (show (strV (ts.take k)).length = k * 1 by rw [strV_length, List.length_take, HJ.out]; omega)
          have LD := Lib.hid (show (strV (ts.drop k)).length = (J - k) * 1 by rw [strV_length, List.length_drop, HJ.out]; omega)
          have SK := Lib.hid (show ∀ W, Below wc.heap.size wc W → ∀ j u, (strV (ts.take k))[j]? = some u → W.cell? ((⟨g, 0, none⟩ : Addr).add j) = some u from fun W hW j u hj => by
            have h1 : (strV ts)[j]? = some u := by
              unfold strV at hj ⊢
              rw [List.map_take, List.getElem?_take] at hj
              split at hj
              · exact hj
              · cases hj
            have := SRC.out W hW j u h1
            cases j with
            | zero => simpa [Addr.add] using this
            | succ j => simpa [Addr.add] using this)
          have SD := Lib.hid (show ∀ W, Below wc.heap.size wc W → ∀ j u, (strV (ts.drop k))[j]? = some u → W.cell? (ad.add j) = some u from fun W hW j u hj => by
            have hjl := (List.getElem?_eq_some_iff.1 hj).1
            rw [strV_length, List.length_drop, HJ.out] at hjl
            obtain rfl : ad = ⟨g, k, none⟩ := had.resolve_left (by omega)
            have h1 : (strV ts)[k + j]? = some u := by
              unfold strV at hj ⊢
              rw [List.map_drop, List.getElem?_drop] at hj
              exact hj
            have := SRC.out W hW (k + j) u h1
            cases j with
            | zero => simpa [Addr.add] using this
            | succ j => simpa [Addr.add] using this)
          have A3 := Lib.hid (show 0 + k ≤ maxLen by unfold maxLen; omega)
          have A4 := Lib.hid (show (0 + k) * 16 ≤ 140737488355328 by omega)
          have A5 := Lib.hid (show k + 1 ≤ maxLen by unfold maxLen; omega)
          have A6 := Lib.hid (show (k + 1) * 16 ≤ 140737488355328 by omega)
          have A7 := Lib.hid (show k + 1 + (J - k) ≤ maxLen by unfold maxLen; omega)
          have A8 := Lib.hid (show (k + 1 + (J - k)) * 16 ≤ 140737488355328 by omega)
          have HAD := Lib.hid had
          have HL := Lib.hid (show (ts.take k ++ [x] ++ ts.drop k).length = J + 1 by rw [List.length_append, List.length_append, List.length_take, List.length_drop, HJ.out]; simp; omega)
          have HLS := Lib.hid (show ∀ t ∈ ts.take k ++ [x] ++ ts.drop k, (f t.data.toList).isSome = true ∧ t.size ≤ maxLen from fun t ht => by
            rcases List.mem_append.1 ht with ht | ht
            · rcases List.mem_append.1 ht with ht | ht
              · exact HTS.out t (List.mem_of_mem_take ht)
              · rw [List.mem_singleton.1 ht]; exact HX.out
            · exact HTS.out t (List.mem_of_mem_drop ht))
          clear had
          go_region_law (first
            | (refine step_append_ownT rfl (.tmp 26) (.tmp 29) 53 rfl wc.heap.size 9 i0 _ 1 16 hE hi0 hz0 hz1 hz2 rfl (by decide) (.slice (some ⟨wc.heap.size, 0, none⟩) 0 0) 0 [] (by rfl) HOE.out ⟨g, 0, none⟩ k oc (strV (ts.take k)) (by rfl) LK.out (SK.out _ GE.out) (strV_ones _) A3.out A4.out GE.out.size ?_; intro vB wB hownB hgrB; obtain ⟨aB, nB, cB, rfl⟩ := owns_slice hownB; rw [Nat.zero_add, List.nil_append] at hownB; have HOB := Lib.hid hownB; have HBB := Lib.hid (GE.out.grown hgrB GE.out.size (fun q hq => by simp [Value.ownBlock] at hq; omega)); clear hownB hgrB)
            | (refine step_append_ownT rfl (.tmp 26) (.tmp 29) 53 rfl wc.heap.size 9 i0 _ 1 16 hE hi0 hz0 hz1 hz2 rfl (by decide) (.slice (some ⟨wc.heap.size, 0, none⟩) 0 0) 0 [] (by rfl) HOES.out ⟨g, 0, none⟩ k oc (strV (ts.take k)) (by rfl) LK.out (SK.out _ GES.out) (strV_ones _) A3.out A4.out GES.out.size ?_; intro vB wB hownB hgrB; obtain ⟨aB, nB, cB, rfl⟩ := owns_slice hownB; rw [Nat.zero_add, List.nil_append] at hownB; have HOB := Lib.hid hownB; have HBB := Lib.hid (GES.out.grown hgrB GES.out.size (fun q hq => by simp [Value.ownBlock] at hq; omega)); have HS := Lib.hid ((hgrB.block (wc.heap.size + 1) (Array.getElem?_eq_some_iff.1 SES.out).1 (by intro e; simp [Value.ownBlock] at e)).trans SES.out); clear hownB hgrB)
            | (refine step_append_ownT rfl (.tmp 26) (.tmp 29) 53 rfl wc.heap.size 9 i0 _ 1 16 hE hi0 hz0 hz1 hz2 rfl (by decide) (.slice (some ⟨wc.heap.size + 1, 0, none⟩) 0 0) 0 [] (by rfl) HOSE.out ⟨g, 0, none⟩ k oc (strV (ts.take k)) (by rfl) LK.out (SK.out _ GSE.out) (strV_ones _) A3.out A4.out GSE.out.size ?_; intro vB wB hownB hgrB; obtain ⟨aB, nB, cB, rfl⟩ := owns_slice hownB; rw [Nat.zero_add, List.nil_append] at hownB; have HOB := Lib.hid hownB; have HBB := Lib.hid (GSE.out.grown hgrB GSE.out.size (fun q hq => by simp [Value.ownBlock] at hq; omega)); have HS := Lib.hid ((hgrB.block (wc.heap.size) (Array.getElem?_eq_some_iff.1 SSE.out).1 (by intro e; simp [Value.ownBlock] at e)).trans SSE.out); clear hownB hgrB)
            | (refine step_append_ownT rfl (.tmp 30) (.tmp 32) 53 rfl wc.heap.size 9 i0 _ 1 16 hE hi0 hz0 hz1 hz2 rfl (by decide) (.slice aB nB cB) k (strV (ts.take k)) (by rfl) (HOB.out.alloc _) ⟨wB.heap.size, 0, none⟩ 1 1 (strV [x]) (by rfl) rfl (by intro j u hj; match j, hj with | 0, hj => (simp [strV] at hj; subst hj; simp [Addr.add])) (strV_ones _) A5.out A6.out (by have := HBB.out.size; simp; omega) ?_; intro vD wD hownD hgrD; obtain ⟨aD, nD, cD, rfl⟩ := owns_slice hownD; have HOD := Lib.hid hownD; have HBD := Lib.hid ((HBB.out.alloc HBB.out.size _).grown hgrD (by have := HBB.out.size; simp; omega) (fun q hq => (HOB.out.lt q hq).1)); clear hownD hgrD)
            | (refine step_append_ownT rfl (.tmp 30) (.tmp 32) 53 rfl wc.heap.size 9 i0 _ 1 16 hE hi0 hz0 hz1 hz2 rfl (by decide) (.slice aB nB cB) k (strV (ts.take k)) (by rfl) HOB.out ⟨wc.heap.size + 1, 0, none⟩ 1 1 (strV [x]) (by rfl) rfl (by intro j u hj; match j, hj with | 0, hj => (simp [strV] at hj; subst hj; have := cellO HS.out 0; simpa [Addr.add] using this)) (strV_ones _) A5.out A6.out HBB.out.size ?_; intro vD wD hownD hgrD; obtain ⟨aD, nD, cD, rfl⟩ := owns_slice hownD; have HOD := Lib.hid hownD; have HBD := Lib.hid (HBB.out.grown hgrD HBB.out.size (fun q hq => (HOB.out.lt q hq).1)); clear hownD hgrD)
            | (refine step_append_ownT rfl (.tmp 30) (.tmp 32) 53 rfl wc.heap.size 9 i0 _ 1 16 hE hi0 hz0 hz1 hz2 rfl (by decide) (.slice aB nB cB) k (strV (ts.take k)) (by rfl) HOB.out ⟨wc.heap.size, 0, none⟩ 1 1 (strV [x]) (by rfl) rfl (by intro j u hj; match j, hj with | 0, hj => (simp [strV] at hj; subst hj; have := cellO HS.out 0; simpa [Addr.add] using this)) (strV_ones _) A5.out A6.out HBB.out.size ?_; intro vD wD hownD hgrD; obtain ⟨aD, nD, cD, rfl⟩ := owns_slice hownD; have HOD := Lib.hid hownD; have HBD := Lib.hid (HBB.out.grown hgrD HBB.out.size (fun q hq => (HOB.out.lt q hq).1)); clear hownD hgrD)
            | (refine step_append_ownT rfl (.tmp 33) (.tmp 36) 53 rfl wc.heap.size 9 i0 _ 1 16 hE hi0 hz0 hz1 hz2 rfl (by decide) (.slice aD nD cD) (k + 1) (strV (ts.take k) ++ strV [x]) (by rfl) HOD.out ad (J - k) (oc - k) (strV (ts.drop k)) (by rfl) LD.out (SD.out _ HBD.out) (strV_ones _) A7.out A8.out HBD.out.size ?_; intro vE wE hownE hgrE; obtain ⟨aE, nE, cE, rfl⟩ := owns_slice hownE; have HOE2 := Lib.hid hownE; have HBE := Lib.hid (HBD.out.grown hgrE HBD.out.size (fun q hq => (HOD.out.lt q hq).1)); clear hownE hgrE))
          all_goals (
            go_wp2_with fail
            go_frame
            go_roundg cnt1
            case measure => exact hlt
            case rel =>
              have h1 := HOE2.out
              rw [show k + 1 + (J - k) = J + 1 by omega, show strV (ts.take k) ++ strV [x] ++ strV (ts.drop k) = strV (ts.take k ++ [x] ++ ts.drop k) by simp [strV]] at h1
              exact FIN.out _ _ _ h1 HL.out HLS.out HBE.out)
end Go.Proofs.YtibopjjicfiimaaGreatDoor
namespace Go.Proofs.YtibopjjicfiimaaGreatDoor
open Go.RowKit Go.Maps
set_option linter.unusedVariables false
/-- the law's own blocks, and what they hold -/
structure LD where
  C : Nat
  P : Nat
  sb : Nat
  T4 : Nat
  T5 : Nat
  nb : Nat
  nc : Nat
  T7 : Nat
  cb : Nat
  mb : Nat
  bX : Nat
  Nb : Nat
  T15 : Nat
  fb : Nat
  E : Nat
  root : Nat
  nm : List ByteArray
  fc : List UInt8 → Option Nat
  fm : List UInt8 → Option Nat
  ncl : Nat
  nmt : Nat
  n0 : Nat
  n1 : Nat
  n2 : Nat
  xv : Array Value
  L0 : List Sg
/-- a block of those that stay -/
def LD.st (d : LD) (q : Nat) : Prop := q < d.E ∧ q ≠ d.P ∧ q ≠ d.sb ∧ q ≠ d.T15 ∧ q ≠ d.fb
structure Good (d : LD) : Prop where
  b4 : d.st d.T4
  b5 : d.st d.T5
  bn : d.st d.nb
  b7 : d.st d.T7
  bc : d.st d.cb
  bm : d.st d.mb
  bx : d.st d.bX
  bN : d.st d.Nb
  bP : d.C ≤ d.P ∧ d.P < d.E ∧ d.P ≠ d.T15
  bs : d.C ≤ d.sb ∧ d.sb < d.E
  b15 : d.C ≤ d.T15 ∧ d.T15 < d.E ∧ d.T4 ≠ d.T15
  bf : d.C ≤ d.fb ∧ d.fb < d.E
  bsf : d.sb ≠ d.fb
  len : 16 ≤ d.nm.length ∧ d.nm.length ≤ 22
  names : ∀ s ∈ d.nm, 0 < s.size % 8 ∧ s.size ≤ 24
  cls : ∀ s v, d.fc s = some v → IsK d.L0 0 5 v
  mts : ∀ s v, d.fm s = some v → IsK d.L0 0 5 v
  clz : ∀ s v, d.fc s = some v → 0 < s.length % 8 ∧ s.length ≤ 24
  hcl : ∀ s ∈ d.nm, (d.fc s.data.toList).isSome = true
  hmt : ∀ s ∈ d.nm, (d.fm s.data.toList).isSome = true
  ncl : d.ncl ≤ 22
  nmt : d.nmt ≤ 22
  nils : IsK d.L0 0 0 d.n0 ∧ IsK d.L0 0 0 d.n1 ∧ IsK d.L0 0 0 d.n2
  root : IsK d.L0 1 24 d.root
/-- what stays -/
structure Sta (d : LD) (W : World) : Prop where
  t4 : W.heap[d.T4]? = some (.cells #[.pointer (some ⟨d.P, 0, none⟩)] 49 (0, 0))
  t5 : W.heap[d.T5]? = some (.cells #[.slice (some ⟨d.nb, 0, none⟩) d.nm.length d.nc] 53 (0, 0))
  row : ∃ cur, W.heap[d.nb]? = some (Obj.cells cur 9 (0, 0)) ∧ ∀ j (h : j < d.nm.length), cur[j]? = some (.string d.nm[j])
  t7 : W.heap[d.T7]? = some (.cells #[.map (some d.cb)] 50 (0, 0))
  mc : MapS 30 W d.cb d.fc d.ncl
  mm : MapS 30 W d.mb d.fm d.nmt
  x : W.heap[d.bX]? = some (.cells d.xv 24 (0, 0))
  nils : W.heap[d.Nb]? = some (.cells #[.int .u64 (d.n0 : Int), .int .u64 (d.n1 : Int), .int .u64 (d.n2 : Int)] 30 (0, 0))
/-- the blocks that a step may write -/
def LD.may (d : LD) (q : Nat) : Prop := q = d.P ∨ q = d.sb ∨ q = d.T15 ∨ q = d.fb ∨ d.E ≤ q
theorem LD.st.not {d : LD} {q : Nat} (h : d.st q) : ¬ d.may q := by
  obtain ⟨h1, h2, h3, h4, h5⟩ := h
  rintro (h | h | h | h | h) <;> first | exact absurd h ‹_› | omega
theorem Sta.fr {d : LD} {W W' : World} (h : Sta d W) (g : Good d) (hf : Fr d.may W W') : Sta d W' := by
  obtain ⟨cur, r1, r2⟩ := h.row
  obtain ⟨e1, c1, m1⟩ := h.mc.mapBlk
  obtain ⟨e2, c2, m2⟩ := h.mm.mapBlk
  exact ⟨hf.cell h.t4 g.b4.not (by decide), hf.cell h.t5 g.b5.not (by decide), ⟨cur, hf.cell r1 g.bn.not (by decide), r2⟩, hf.cell h.t7 g.b7.not (by decide),
    h.mc.block ((hf.map m1 g.bc.not).trans m1.symm), h.mm.block ((hf.map m2 g.bm.not).trans m2.symm), hf.cell h.x g.bx.not (by decide), hf.cell h.nils g.bN.not (by decide)⟩
theorem Sta.later {d : LD} {W W' : World} (h : Sta d W) (g : Good d) (hb : Below W.heap.size W W') : Sta d W' := h.fr g (Fr.below hb)
/-- what grows: cells used, symbols -/
structure Dyn (d : LD) (W : World) (U N : Nat) (L : List Sg) : Prop where
  ex : ∃ la ln lc fs ns, Twn d.C d.P d.sb W la ln lc d.root L ∧ MapS 30 W d.sb fs ns ∧ PtrM L fs ∧ ns ≤ N
  us : usedS L ≤ U
  sub : d.L0 ⊆ L
theorem Dyn.later {d : LD} {W W' : World} {U N : Nat} {L : List Sg} (h : Dyn d W U N L) (hb : Below W.heap.size W W') : Dyn d W' U N L := by
  obtain ⟨⟨la, ln, lc, fs, ns, h1, h2, h3, h4⟩, h5, h6⟩ := h
  exact ⟨⟨la, ln, lc, fs, ns, h1.later hb, h2.later hb, h3, h4⟩, h5, h6⟩
theorem Dyn.keep {d : LD} {W W' : World} {U N : Nat} {L : List Sg} (h : Dyn d W U N L) (hk : Kp W W') (hP : W'.heap[d.P]? = W.heap[d.P]?) (hs : W'.heap[d.sb]? = W.heap[d.sb]?) : Dyn d W' U N L := by
  obtain ⟨⟨la, ln, lc, fs, ns, h1, h2, h3, h4⟩, h5, h6⟩ := h
  exact ⟨⟨la, ln, lc, fs, ns, h1.keep hk hP, h2.block hs, h3, h4⟩, h5, h6⟩
theorem Dyn.ge {d : LD} {W : World} {U N : Nat} {L : List Sg} (h : Dyn d W U N L) : d.C ≤ W.heap.size := by
  obtain ⟨⟨la, ln, lc, fs, ns, h1, -⟩, -⟩ := h
  exact Nat.le_of_lt (Nat.lt_of_le_of_lt h1.hP h1.lt)
theorem Dyn.word {d : LD} {W : World} {U N v : Nat} {L : List Sg} (h : Dyn d W U N L) (hv : IsP L v) : v % 2 = 0 ∧ v ≠ 0 ∧ v < 18446744073709551616 := by
  obtain ⟨⟨la, ln, lc, fs, ns, h1, -⟩, -⟩ := h
  have := h1.lst.at_ hv
  have := h1.fit
  omega
/-- an object in the list, by its place there -/
def AtI (d : LD) (W : World) (L : List Sg) (b i : Nat) (s : Sg) : Prop := ∃ ln lc, W.heap[d.P]? = some (.cells #[.int .i64 3000, .slice (some ⟨b, 0, none⟩) ln lc, .int .u32 0, .map (some d.sb), .int .u64 (d.root : Int)] 52 (0, 0)) ∧ L[i]? = some s
theorem AtI.later {d : LD} {W W' : World} {L : List Sg} {b i : Nat} {s : Sg} (h : AtI d W L b i s) (hb : Below W.heap.size W W') : AtI d W' L b i s := by
  obtain ⟨ln, lc, h1, h2⟩ := h
  exact ⟨ln, lc, (hb.block _ (Array.getElem?_eq_some_iff.1 h1).1).trans h1, h2⟩
theorem AtI.twn {d : LD} {W : World} {L : List Sg} {b i U N : Nat} {s : Sg} (h : AtI d W L b i s) (hd : Dyn d W U N L) : ∃ ln lc fs ns, Twn d.C d.P d.sb W (some ⟨b, 0, none⟩) ln lc d.root L ∧ MapS 30 W d.sb fs ns ∧ PtrM L fs ∧ ns ≤ N ∧ L[i]? = some s := by
  obtain ⟨ln, lc, h1, h2⟩ := h
  obtain ⟨⟨la, ln', lc', fs, ns, k1, k2, k3, k4⟩, -⟩ := hd
  have e := k1.blk
  rw [h1] at e
  simp only [Option.some.injEq, Obj.cells.injEq, Array.mk.injEq, List.cons.injEq, Value.slice.injEq, and_true, true_and] at e
  obtain ⟨rfl, rfl, rfl⟩ := e
  exact ⟨ln, lc, fs, ns, k1, k2, k3, k4, h2⟩
/-- the list's block: its cells are there -/
theorem AtI.blk {d : LD} {W : World} {L : List Sg} {b i U N : Nat} {s : Sg} (h : AtI d W L b i s) (hd : Dyn d W U N L) : d.C ≤ b ∧ (∃ c, W.heap[b]? = some (Obj.cells c 65 (0, 0))) ∧ (∀ j, W.frozen? ⟨b, j, none⟩ = false) ∧ ∃ c wv, W.cell? ⟨b, i * 8 + 1, none⟩ = some (.int .u64 (c : Int)) ∧ W.cell? ⟨b, i * 8 + 6, none⟩ = some wv := by
  obtain ⟨ln, lc, fs, ns, k1, -, -, -, k5⟩ := h.twn hd
  obtain ⟨hC, c, hc⟩ := k1.lst.blk k5 rfl
  obtain ⟨os, o, b', e1, e2, e3, e4, e5, e6, e7⟩ := k1.lst.get k5
  obtain ⟨b2, wv, bv, f1, f2, f3, f4, f5⟩ := e6.get e2
  simp only [Option.some.injEq, Addr.mk.injEq, and_true] at f1
  subst f1
  refine ⟨hC, ⟨c, hc⟩, fun j => by unfold World.frozen?; rw [hc]; cases j <;> rfl, (o.cls : Nat), wv, ?_, ?_⟩
  · rw [Nat.mul_comm i 8]; exact f5 1 (by omega)
  · rw [Nat.mul_comm i 8]; exact f5 6 (by omega)
theorem AtI.setO {d : LD} {W : World} {L : List Sg} {b i b' i' j U N : Nat} {s s' : Sg} {u : Value} (h : AtI d W L b i s) (k : AtI d W L b' i' s') (hd : Dyn d W U N L) : AtI d (W.setCell ⟨b, j, none⟩ u) L b' i' s' := by
  obtain ⟨-, ⟨c, hc⟩, -⟩ := h.blk hd
  obtain ⟨ln, lc, h1, h2⟩ := k
  refine ⟨ln, lc, (Below.heap_setCell _ _ _ _ fun e => ?_).trans h1, h2⟩
  have e : d.P = b := e
  rw [e, hc] at h1
  simp at h1
theorem Dyn.setT {d : LD} {W : World} {L : List Sg} {b i j U N : Nat} {s : Sg} {u : Value} (h : AtI d W L b i s) (hd : Dyn d W U N L) (ht : ∀ ln lc, Twn d.C d.P d.sb W (some ⟨b, 0, none⟩) ln lc d.root L → Twn d.C d.P d.sb (W.setCell ⟨b, j, none⟩ u) (some ⟨b, 0, none⟩) ln lc d.root L) : Dyn d (W.setCell ⟨b, j, none⟩ u) U N L := by
  obtain ⟨-, ⟨c, hc⟩, -⟩ := h.blk hd
  obtain ⟨ln, lc, fs, ns, k1, k2, k3, k4, k5⟩ := h.twn hd
  refine ⟨⟨_, ln, lc, fs, ns, ht ln lc k1, k2.block (Below.heap_setCell _ _ _ _ fun e => ?_), k3, k4⟩, hd.us, hd.sub⟩
  have e : d.sb = b := e
  obtain ⟨es, cl, hm⟩ := k2.mapBlk
  rw [e, hc] at hm
  simp at hm
/-- its class is told -/
theorem Dyn.cls {d : LD} {W : World} {L : List Sg} {b i c U N : Nat} {s : Sg} (h : AtI d W L b i s) (hd : Dyn d W U N L) (hc : IsP L c) : Dyn d (W.setCell ⟨b, i * 8 + 1, none⟩ (.int .u64 (c : Int))) U N L :=
  Dyn.setT h hd fun ln lc ht => by
    obtain ⟨ln', lc', -, h2⟩ := h
    rw [Nat.mul_comm i 8]
    exact ht.cls h2 rfl (hd.word hc)
/-- its words are told -/
theorem Dyn.words {d : LD} {W : World} {L : List Sg} {b i a n U N : Nat} {k : Int} {v : Value} (h : AtI d W L b i (a, k, n)) (hd : Dyn d W U N L) (hk : k ≠ 2) (hv : NumSl W 30 .u64 d.C 18446744073709551616 n v) : Dyn d (W.setCell ⟨b, i * 8 + 6, none⟩ v) U N L :=
  Dyn.setT h hd fun ln lc ht => by
    obtain ⟨ln', lc', -, h2⟩ := h
    rw [Nat.mul_comm i 8]
    exact ht.words h2 rfl hk hv
theorem AtI.frO {d : LD} {W : World} {L : List Sg} {b i j U N : Nat} {s : Sg} {u : Value} {X : Nat → Prop} (h : AtI d W L b i s) (hd : Dyn d W U N L) : Fr X W (W.setCell ⟨b, j, none⟩ u) := by
  obtain ⟨-, ⟨c, hc⟩, -⟩ := h.blk hd
  exact Fr.setO hc
theorem AtI.kpn {d : LD} {W : World} {L : List Sg} {b i j U N : Nat} {s : Sg} {u : Value} (h : AtI d W L b i s) (hd : Dyn d W U N L) : KpN W (W.setCell ⟨b, j, none⟩ u) := by
  obtain ⟨-, ⟨c, hc⟩, -⟩ := h.blk hd
  exact KpN.setT hc (by decide) (by decide)
/-- an object by its pointer -/
theorem dat_any (d : LD) (W : World) (U N : Nat) (L : List Sg) (k : Int) (n v : Nat) (hd : Dyn d W U N L) (hv : IsK L k n v) :
    Calls Tryz.prog 17 #[.pointer (some ⟨d.P, 0, none⟩), .int .u64 (v : Int)] W fun e W' => ∃ b i a, e = .returned (.pointer (some ⟨b, i * 8, none⟩)) ∧ AtI d W L b i (a, k, n) ∧ Below W.heap.size W W' := by
  obtain ⟨a, ha, hv⟩ := hv
  obtain ⟨i, hi⟩ := List.mem_iff_getElem?.1 ha
  obtain ⟨⟨la, ln, lc, fs, ns, k1, -⟩, -⟩ := hd
  refine (tat_any d.C d.P d.sb la ln lc d.root i L (a, k, n) W k1 v hi hv).mono ?_
  rintro e W' ⟨b, rfl, rfl, hb⟩
  exact ⟨b, i, a, rfl, ⟨ln, lc, k1.blk, hi⟩, hb⟩
/-- one more object -/
theorem dadd_any (d : LD) (W : World) (U N : Nat) (L : List Sg) (k : Int) (n : Nat) (wv bv : Value) (bs : List UInt8) (hd : Dyn d W U N L) (hk : 0 ≤ k ∧ k ≤ 2)
    (hw : NumSl W 30 .u64 d.C 18446744073709551616 (if k = 2 then 0 else n) wv) (hb : BytesAt W bv bs) (hbl : bs.length = if k = 2 then n else 0) (h8 : k = 2 → 0 < n % 8) (hu : U + 2 + cellsS (0, k, n) ≤ 3000) :
    Calls Tryz.prog 12 #[.pointer (some ⟨d.P, 0, none⟩), .int .i64 k, wv, bv] W fun e W' => ∃ (x : Nat) (L' : List Sg), e = .returned (.int .u64 (x : Int)) ∧ IsK L' k n x ∧ x < 18446744073709551616 ∧ L ⊆ L' ∧ Dyn d W' (U + 2 + cellsS (0, k, n)) N L' ∧ Fr (fun q => q = d.P) W W' ∧ KpN W W' ∧ Below d.C W W' := by
  obtain ⟨⟨la, ln, lc, fs, ns, k1, k2, k3, k4⟩, k5, k6⟩ := hd
  refine (tadd_any d.C d.P d.sb la ln lc d.root L W k1 k n wv bv bs hk hw hb hbl h8 (by omega)).mono ?_
  rintro e W' ⟨x, la', lc', rfl, hx, ht, hf, hb⟩
  have hfit := k1.fit
  obtain ⟨es, cl, hm⟩ := k2.mapBlk
  have hPs : d.sb ≠ d.P := by
    intro e
    have := k1.blk
    rw [← e, hm] at this
    simp at this
  refine ⟨x, _, rfl, ⟨usedS L, List.mem_append_right _ (List.mem_singleton.2 rfl), hx⟩, by omega, sub_snoc _ _, ⟨⟨la', _, lc', fs, ns, ht, k2.block ((hf.map hm hPs).trans hm.symm), k3.mono (sub_snoc _ _), k4⟩, ?_, fun s hs => sub_snoc _ _ (k6 hs)⟩, hf, k1.kpn hf, hb⟩
  rw [usedS_snoc]
  have : cellsS (usedS L, k, n) = cellsS (0, k, n) := rfl
  omega
/-- a symbol -/
theorem dsym_any (d : LD) (W : World) (U N : Nat) (L : List Sg) (s : ByteArray) (hd : Dyn d W U N L) (hC : d.C ≤ d.sb) (hN : N ≤ 1000) (hs : 0 < s.size % 8) (hs2 : s.size ≤ 24) (hu : U + 5 ≤ 3000) :
    Calls Tryz.prog 16 #[.pointer (some ⟨d.P, 0, none⟩), .string s] W fun e W' => ∃ (x : Nat) (L' : List Sg), e = .returned (.int .u64 (x : Int)) ∧ IsP L' x ∧ x < 18446744073709551616 ∧ L ⊆ L' ∧ Dyn d W' (U + 5) (N + 1) L' ∧ Fr (fun q => q = d.P ∨ q = d.sb) W W' ∧ KpN W W' ∧ Below d.C W W' := by
  obtain ⟨⟨la, ln, lc, fs, ns, k1, k2, k3, k4⟩, k5, k6⟩ := hd
  have hfit := k1.fit
  refine (tsym_any d.C d.P d.sb la ln lc d.root L fs ns s W k1 k2 k3 (by omega) hC hs hs2 (by omega)).mono ?_
  rintro e W' ⟨x, la', ln', lc', L', f', n', rfl, hx, ht, hsub, hus, hm, hpf, hn, hf, hb⟩
  have := ht.lst.at_ hx
  have := ht.fit
  refine ⟨x, L', rfl, hx, by omega, hsub, ⟨⟨la', ln', lc', f', n', ht, hm, hpf, by omega⟩, by omega, fun s hs => hsub (k6 hs)⟩, hf, ?_, hb⟩
  refine hf.kpn fun q c T hq hc => ?_
  rcases hq with rfl | rfl
  · have := k1.blk
    rw [hc] at this
    simp only [Option.some.injEq, Obj.cells.injEq] at this
    obtain ⟨-, rfl, -⟩ := this
    exact ⟨by decide, by decide⟩
  · obtain ⟨es, cl, hm⟩ := k2.mapBlk
    rw [hc] at hm
    simp at hm
/-- the lists so far -/
structure Lst (d : LD) (W : World) (L : List Sg) (m : Nat) : Prop where
  ex : ∃ lv ls, W.heap[d.T15]? = some (.cells #[lv] 56 (0, 0)) ∧ W.ownsRow d.E 30 1 lv m (wordVals ls) ∧ SmallW ls ∧ ∀ x ∈ ls, IsP L x
theorem Lst.fr {d : LD} {W W' : World} {L L' : List Sg} {m : Nat} (h : Lst d W L m) {X : Nat → Prop} (hf : Fr X W W') (hx : ∀ q, X q → q ≠ d.T15 ∧ q < d.E) (hL : L ⊆ L') : Lst d W' L' m := by
  obtain ⟨lv, ls, h1, ⟨o1, o2⟩, h3, h4⟩ := h.ex
  refine ⟨lv, ls, hf.cell h1 (fun hh => (hx _ hh).1 rfl) (by decide), ⟨o1, o2.imp id ?_⟩, h3, fun x hx => (h4 x hx).mono hL⟩
  rintro ⟨g, cap, cur, e1, e2, e3, e4⟩
  exact ⟨g, cap, cur, e1, e2, hf.cell e3 (fun hh => by have := (hx _ hh).2; omega) (by decide), e4⟩
theorem Lst.later {d : LD} {W W' : World} {L : List Sg} {m : Nat} (h : Lst d W L m) (hb : Below W.heap.size W W') : Lst d W' L m :=
  h.fr (X := fun _ => False) (Fr.below hb) (fun q hq => hq.elim) (fun _ h => h)
/-- one more list -/
theorem dlist_any (d : LD) (W : World) (U N m : Nat) (L : List Sg) (g : Good d) (hs : Sta d W) (hd : Dyn d W U N L) (hl : Lst d W L m) (hE : d.E ≤ W.heap.size) (hm : m ≤ 1000) (hu : U + 2 ≤ 3000) :
    Calls Tryz.prog 14 #[.pointer (some ⟨d.T4, 0, none⟩), .pointer (some ⟨d.T15, 0, none⟩)] W fun e W' => ∃ (x : Nat) (L' : List Sg), e = .returned (.int .u64 (x : Int)) ∧ IsK L' 1 0 x ∧ x < 18446744073709551616 ∧ L ⊆ L' ∧ Dyn d W' (U + 2) N L' ∧ Lst d W' L' (m + 1) ∧ Fr (fun q => q = d.P ∨ q = d.T15 ∨ d.E ≤ q) W W' ∧ KpN W W' ∧ Below d.C W W' := by
  obtain ⟨⟨la, ln, lc, fs, ns, k1, k2, k3, k4⟩, k5, k6⟩ := hd
  obtain ⟨lv, ls, l1, l2, l3, l4⟩ := hl.ex
  have hfit := k1.fit
  refine (tlist_any d.C d.P d.sb d.T4 d.T15 d.E la ln lc d.root m L lv ls W k1 hs.t4 l1 g.b15.1 g.b15.2.1 g.bP.2.1 g.b4.1 hE l2 l3 hm (by omega) g.b15.2.2).mono ?_
  rintro e W' ⟨x, la', lc', lv', rfl, hx, ht, h15, ho, hf, hk, hb⟩
  obtain ⟨es, cl, hmb⟩ := k2.mapBlk
  have hPs : ¬ (d.sb = d.P ∨ d.sb = d.T15 ∨ d.E ≤ d.sb) := by
    rintro (e | e | e)
    · have := k1.blk
      rw [← e, hmb] at this
      simp at this
    · rw [← e, hmb] at l1
      simp at l1
    · have := g.bs.2
      omega
  have hxk : IsK (L ++ [(usedS L, (1 : Int), 0)]) 1 0 x := ⟨usedS L, List.mem_append_right _ (List.mem_singleton.2 rfl), hx⟩
  have hx64 : x < 18446744073709551616 := by omega
  refine ⟨x, _, rfl, hxk, hx64, sub_snoc _ _, ⟨⟨la', _, lc', fs, ns, ht, k2.block ((hf.map hmb hPs).trans hmb.symm), k3.mono (sub_snoc _ _), k4⟩, ?_, fun s hs => sub_snoc _ _ (k6 hs)⟩, ⟨lv', ls ++ [x], h15, ho, ?_, ?_⟩, hf, hk, hb⟩
  · rw [usedS_snoc]
    have : cellsS (usedS L, 1, 0) = 0 := by unfold cellsS; simp
    omega
  · intro y hy
    rcases List.mem_append.1 hy with hy | hy
    · exact l3 y hy
    · rw [List.mem_singleton.1 hy]; exact hx64
  · intro y hy
    rcases List.mem_append.1 hy with hy | hy
    · exact (l4 y hy).mono (sub_snoc _ _)
    · rw [List.mem_singleton.1 hy]; exact hxk.p
/-- a class, by its number -/
theorem droot_any (d : LD) (W : World) (g : Good d) (hs : Sta d W) (i : Int) (k : Nat) (hi : i = (k : Int) + 5) (hk : k < d.nm.length) :
    ∃ x, IsK d.L0 0 5 x ∧ Calls Tryz.prog 13 #[.int .i64 i, .pointer (some ⟨d.T7, 0, none⟩), .pointer (some ⟨d.T5, 0, none⟩)] W fun e W' => e = .returned (.int .u64 (x : Int)) ∧ Below W.heap.size W W' := by
  have hmem : d.nm[k] ∈ d.nm := List.getElem_mem hk
  have h1 := g.hcl _ hmem
  obtain ⟨x, hx⟩ := Option.isSome_iff_exists.1 h1
  obtain ⟨cur, r1, r2⟩ := hs.row
  have hn := (g.names _ hmem).2
  refine ⟨x, g.cls _ _ hx, troot_any d.cb d.nb d.T7 d.T5 d.nm.length d.nc d.ncl k x d.nm[k] d.fc i W hi hs.t7 hs.t5 hk (by have := g.len.2; omega) ((cellO r1 k).trans (r2 k hk)) (by unfold maxLen; omega) hs.mc hx⟩
end Go.Proofs.YtibopjjicfiimaaGreatDoor
