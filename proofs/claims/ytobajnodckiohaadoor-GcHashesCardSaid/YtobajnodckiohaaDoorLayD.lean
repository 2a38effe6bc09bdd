/- Lay: both heaps of a graph. -/
import Derived.Test.YtobajnodckiohaaDoorLayC
import Derived.Test.YtobajnodckiohaaDoorPackOpen
import Derived.Deep.CutBlock
import Derived.Deep.RegionWith
namespace Go.Proofs.YtobajnodckiohaaDoor
open Go.RowKit
set_option linter.unusedVariables false
/-- the kinds as they are taken -/
theorem tmod_bd (z : Int) : -2 ≤ z.tmod 3 ∧ z.tmod 3 ≤ 2 := by
  cases z with
  | ofNat n => show -2 ≤ ((n % 3 : Nat) : Int) ∧ ((n % 3 : Nat) : Int) ≤ 2; omega
  | negSucc n => show -2 ≤ -(((n + 1) % 3 : Nat) : Int) ∧ -(((n + 1) % 3 : Nat) : Int) ≤ 2; omega
theorem kind_bd (z : Int) : 0 ≤ (z.tmod 3 + 3).tmod 3 ∧ (z.tmod 3 + 3).tmod 3 ≤ 2 := by
  have h := tmod_bd z
  obtain ⟨m, hm⟩ := Int.eq_ofNat_of_zero_le (show 0 ≤ z.tmod 3 + 3 by omega)
  rw [hm]
  show 0 ≤ ((m % 3 : Nat) : Int) ∧ ((m % 3 : Nat) : Int) ≤ 2
  omega
/-- a block below the heap's own may change -/
theorem HeapAt.other {w w' : World} {B h N free : Nat} {S : Nat → Bool} {M : Nat → Nat} (H : HeapAt w (B + 1) h N free S M) (hq : ∀ q, q ≠ B → w'.heap[q]? = w.heap[q]?) : HeapAt w' (B + 1) h N free S M := by
  obtain ⟨g, s, h1, h2, h3, h3', h4, h5, h6, h7, h8⟩ := H
  obtain ⟨r, cap, m, ws, f, k1, k2, k3, k4, k5, k6, k7, k8, k9⟩ := h8
  exact ⟨g, s, h1, h2, h3, h3', h4, (hq h (by omega)).trans h5, h6.of_block (hq g (by omega)), h7, r, cap, m, ws, f, k1, k2, k3, k4, (hq s (by omega)).trans k5, k6, k7, k8.of_block (hq r (by omega)), k9⟩
set_option maxRecDepth 100000 in
theorem lcells_any (k : Int) (h0 : 0 ≤ k) (h1 : k ≤ 2) (w : World) :
    Calls Tryd.prog 16 #[.int .i64 k, .int .i64 3] w fun e w' => ∃ c : Nat, e = .returned (.int .i64 (c : Int)) ∧ c ≤ 3 ∧ Below w.heap.size w w' := by
  have RC := Lib.hid (fun W => rcells_any 2 k 3 0 false (by omega) (by omega) W)
  have hc : 0 ≤ cellsZ 2 k 3 0 ∧ cellsZ 2 k 3 0 ≤ 3 := by
    unfold cellsZ
    split
    · split <;> omega
    · omega
  obtain ⟨c, hcz⟩ := Int.eq_ofNat_of_zero_le hc.1
  rw [hcz] at RC hc
  go_enter Tryd.func16, Tryd.ntmps16
  go_wp2_with fail
  refine (RC.out _).mono ?_
  rintro e w1 ⟨rfl, hg⟩
  go_wp2_with fail
  exact bodyPost_ret (v := .int .i64 (c : Int)) (by simp [results, Tryd.results16, go_sem]) rfl ⟨c, rfl, by omega, hg⟩
set_option maxRecDepth 100000 in
set_option maxHeartbeats 1600000 in
theorem lay_far (kv gv : Value) (ks : List Int) (ls : List Nat) (w : World) (hk : NumsAt w .i64 kv ks) (hg : WordsAt w gv ls) (hls : ∀ x, x ∈ ls → x < 18446744073709551616) :
    Calls Tryd.prog 5 #[.agg #[kv, gv]] w fun e w' => ∃ (h : Nat) (lv : Value) (os : List RO) (free : Nat) (S : Nat → Bool) (M : Nat → Nat) (E : Nat), e = .returned (.tuple #[.pointer (some ⟨h, 0, none⟩), .agg #[.int .i64 200, lv, .int .u32 0], .bool true]) ∧
      HeapAt w' (w.heap.size + 2) h 200 free S M ∧ Lays free S M os ∧ os.length ≤ 14 ∧ RObjs E w' lv os ∧ Below w.heap.size w w' ∧ h < E ∧ HeapLt w' h E := by
  have NW := Lib.hid (fun W => new_yes 200 (by omega) (by omega) W)
  have RN := Lib.hid (fun W => rnew_yes W)
  have HG := Lib.hid hg; have HL := Lib.hid hls
  obtain ⟨a, cap, rfl, k1, k2, k3, k4⟩ := hk
  unfold maxLen at k2
  have KF := Lib.hid k4
  clear hg hls k3 k4
  go_enter Tryd.func5, Tryd.ntmps5
  go_wp2_with fail
  obtain ⟨w1, hw1⟩ : ∃ w1, w1 = ((w.alloc (.cells #[.slice a ks.length cap, gv] 25)).alloc (.cells #[.int .i64 0, .slice none 0 0, .int .u32 0] 31)) := ⟨_, rfl⟩
  rw [← hw1]
  have hg1 : w1.heap[w.heap.size]? = some (.cells #[.slice a ks.length cap, gv] 25 (0, 0)) := by rw [hw1, Below.heap_alloc _ _ _ (by simp)]; exact heap_alloc_new w _
  have hr1 : w1.heap[w.heap.size + 1]? = some (.cells #[.int .i64 0, .slice none 0 0, .int .u32 0] 31 (0, 0)) := by
    have := heap_alloc_new (w.alloc (.cells #[.slice a ks.length cap, gv] 25)) (.cells #[.int .i64 0, .slice none 0 0, .int .u32 0] 31)
    rw [hw1]; simpa using this
  have hb1 : Below w.heap.size w w1 := by rw [hw1]; exact ((Below.refl _ w).alloc (Nat.le_refl _) _).alloc (by simp) _
  have hz1 : w1.heap.size = w.heap.size + 2 := by rw [hw1]; simp
  clear hw1
  refine (NW.out w1).mono ?_
  rintro e w2 ⟨h, rfl, hh2, hg2⟩
  rw [hz1] at hh2
  have hz2 := hg2.size
  have HG1 := Lib.hid hg1; have HR1 := Lib.hid hr1; have HB1 := Lib.hid hb1; have HH2 := Lib.hid hh2; have HG2 := Lib.hid hg2
  clear hg1 hr1 hb1 hh2 hg2
  go_wp2_with fail
  refine (RN.out w2).mono ?_
  rintro e w3 ⟨rfl, hg3⟩
  have hz3 := hg3.size
  have hb3 : Below w.heap.size w w3 := HB1.out.trans ((HG2.out.mono (by omega)).trans (hg3.mono (by omega)))
  have hG3 := (hg3.block w.heap.size (by omega)).trans ((HG2.out.block w.heap.size (by omega)).trans HG1.out)
  have hR3 := (hg3.block (w.heap.size + 1) (by omega)).trans ((HG2.out.block (w.heap.size + 1) (by omega)).trans HR1.out)
  have hH3 := HH2.out.later hg3
  have hlt3 : HeapLt w3 h w2.heap.size := HH2.out.lt.far fun q hq => hg3.block q hq
  have HB3 := Lib.hid hb3; have HG3 := Lib.hid hG3; have HR3 := Lib.hid hR3; have HH3 := Lib.hid hH3; have HLT3 := Lib.hid hlt3
  have y0 := cellO hG3 0
  have mg : w.heap.size < w3.heap.size := by omega
  simp at y0
  clear hg3 hb3 hG3 hR3 hH3 hlt3
  go_upto_if 45 with fail
  obtain ⟨w4, hw4⟩ : ∃ w4, w4 = w3.alloc (.cells #[.int .i64 200, .slice none 0 0, .int .u32 0] 31) := ⟨_, rfl⟩
  rw [← hw4]
  have hd4 : w4.heap[w3.heap.size]? = some (.cells #[.int .i64 200, .slice none 0 0, .int .u32 0] 31 (0, 0)) := by rw [hw4]; exact heap_alloc_new w3 _
  have hb4 : Below w3.heap.size w3 w4 := by rw [hw4]; exact (Below.refl _ w3).alloc (Nat.le_refl _) _
  have hz4 : w4.heap.size = w3.heap.size + 1 := by rw [hw4]; simp
  have HD4 := Lib.hid hd4; have HB4 := Lib.hid hb4
  clear hw4 hd4 hb4
  go_cut [9] from 46 to 47 (fun s9 wx => ∃ n : Nat, n ≤ 14 ∧ n ≤ ks.length ∧ s9 = .slice a n cap ∧ wx = w4)
  case first =>
    by_cases h14 : 14 < (ks.length : Int)
    · go_wp2_with fail
      all_goals go_meet
      all_goals exact ⟨14, Nat.le_refl _, by omega, rfl, rfl⟩
    · go_wp2_with fail
      all_goals go_meet
      all_goals exact ⟨ks.length, by omega, Nat.le_refl _, rfl, rfl⟩
  case rest =>
    obtain ⟨n, n14, nk, rfl, hwc⟩ := hcut
    obtain ⟨w5, hw5⟩ : ∃ w5, w5 = wc := ⟨_, rfl⟩
    rw [← hw5]
    rw [← hw5] at hwc
    clear hw5
    subst hwc
    obtain ⟨i1, hi1, hy0, hy1, hy2⟩ := info_parts wordInfo
    go_upto_block 0 with fail
    obtain ⟨w6, hw6⟩ : ∃ w6, w6 = w5.alloc (.cells #[.slice none 0 0] 23) := ⟨_, rfl⟩
    rw [← hw6]
    have hp6 : w6.heap[w3.heap.size + 1]? = some (.cells #[.slice none 0 0] 23 (0, 0)) := by rw [hw6, ← hz4]; exact heap_alloc_new w5 _
    have hb6 : Below (w3.heap.size + 1) w5 w6 := by rw [hw6, ← hz4]; exact (Below.refl _ w5).alloc (Nat.le_refl _) _
    have hz6 : w6.heap.size = w3.heap.size + 1 + 1 := by rw [hw6]; simp; omega
    have HP6 := Lib.hid hp6; have HB6 := Lib.hid hb6
    clear hw6 hp6 hb6
    have HBW := Lib.hid (HB3.out.trans (HB4.out.mono (by omega)))
    go_cut [10] from 50 to 69 (fun s10 wx => ∃ (pa : Option Addr) (pc : Nat) (ps : List Nat), (0 < n → ps.getD 0 0 = 4) ∧ ps.length = n ∧ (∀ x, x ∈ ps → x < 18446744073709551616) ∧ wx.heap[w3.heap.size + 1]? = some (.cells #[.slice pa n pc] 23 (0, 0)) ∧ wx.ownsRow (w3.heap.size + 1 + 1) 37 1 (.slice pa n pc) n (wordVals ps) ∧ Below (w3.heap.size + 1) w5 wx)
    case first =>
      go_wp2_with fail
      go_loopg [10, 50] n (fun gg s10 s50 wr => ∃ (i at_ : Nat) (pa : Option Addr) (pc : Nat) (ps : List Nat), gg = n - i ∧ i ≤ n ∧ s50 = .int .i64 (i : Int) ∧ s10 = .int .i64 (at_ : Int) ∧ at_ ≤ 2 + 5 * i ∧ (i = 0 → at_ = 2) ∧ (0 < i → ps.getD 0 0 = 4) ∧ ps.length = i ∧ (∀ x, x ∈ ps → x < 18446744073709551616) ∧
        wr.heap[w3.heap.size + 1]? = some (.cells #[.slice pa i pc] 23 (0, 0)) ∧ wr.ownsRow (w3.heap.size + 1 + 1) 37 1 (.slice pa i pc) i (wordVals ps) ∧ Below (w3.heap.size + 1) w5 wr)
      case atStart => exact ⟨0, 2, none, 0, [], rfl, by omega, rfl, rfl, by omega, fun _ => rfl, fun h => by omega, rfl, fun x hx => (by cases hx), HP6.out, World.ownsRow_nil _ _ _ _, HB6.out⟩
      case round =>
        obtain ⟨i, at_, pa, pc, ps, hgi, hin, rfl, rfl, hat, hat0, hps0, hpl, hpx, hpb, how, hbr⟩ := hrel
        have hzr := hbr.size
        by_cases hlt : i < n
        · obtain ⟨b, o, hab, hcc, hwf⟩ := KF.out i (by omega)
          obtain ⟨z, hz⟩ : ∃ z, ks[i] = z := ⟨_, rfl⟩
          rw [hz] at hcc hwf
          have bx := bounds_i64 hwf
          have hbl := lt_of_cell hcc
          have hc := ((HBW.out.trans (hbr.mono (by have := HB3.out.size; omega))).cell (p := ⟨b, o + i, none⟩) hbl).trans hcc
          have ht := tmod_bd z
          have p0 := cellO hpb 0
          have pf : wr.frozen? ⟨w3.heap.size + 1, 0, none⟩ = false := by unfold World.frozen?; rw [hpb]; rfl
          simp at p0
          have HGI := Lib.hid hgi; have HAT := Lib.hid hat0; have HPS := Lib.hid hps0; have HPX := Lib.hid hpx; have HPB := Lib.hid hpb; have HOW := Lib.hid how; have HBR := Lib.hid hbr
          have mP : w3.heap.size + 1 < wr.heap.size := (Array.getElem?_eq_some_iff.1 HPB.out).1
          clear hcc hgi hat0 hps0 hpx hpb how hbr hwf hz
          subst hab
          go_wp2_with (at_builtin; refine wpList_append_own _ rfl _ _ 23 rfl (w3.heap.size + 1 + 1) 37 i1 (.int .u64 0) 1 8 Tryd.underlying23 hi1 hy0 hy1 hy2 rfl (by decide) _ _ _ rfl (HOW.out.alloc _) ⟨wr.heap.size, 0, none⟩ 1 1 [.int .u64 (2 * (at_ : Int))] rfl rfl ?c1 ?c2 ?c3 ?c4 ?c5 ?_)
          case c1 =>
            intro j u hj
            match j, hj with
            | 0, hj => simp at hj; subst hj; simp [Addr.add]
          case c2 => intro u hu; simp at hu; subst hu; rfl
          case c3 => unfold maxLen; omega
          case c4 => omega
          case c5 => simp; omega
          intro v' w7 hown' hgrow _
          obtain ⟨g7, c7, rfl, hg7⟩ := owns_shape hown' (by omega)
          have hp7 : w7.heap[w3.heap.size + 1]? = some (.cells #[.slice pa i pc] 23 (0, 0)) := (hgrow.block (w3.heap.size + 1) (by simp; omega) (fun e => by have := (HOW.out.lt _ e.symm).1; omega)).trans ((Below.heap_alloc _ _ _ mP).trans HPB.out)
          have hb7 : Below (w3.heap.size + 1) w5 w7 := (HBR.out.alloc (by omega) _).grown hgrow (by simp; omega) (fun q hq => by have := (HOW.out.lt q hq).1; omega)
          have ho7 : w7.ownsRow (w3.heap.size + 1 + 1) 37 1 (.slice (some ⟨g7, 0, none⟩) (i + 1) c7) (i + 1) (wordVals (ps ++ [2 * at_])) := by
            rw [show wordVals (ps ++ [2 * at_]) = wordVals ps ++ [.int .u64 (2 * (at_ : Int))] by simp [wordVals]]
            exact hown'
          have q0 := cellO hp7 0
          have qf : w7.frozen? ⟨w3.heap.size + 1, 0, none⟩ = false := by unfold World.frozen?; rw [hp7]; rfl
          simp at q0
          have HP7 := Lib.hid hp7; have HB7 := Lib.hid hb7; have HO7 := Lib.hid ho7
          clear hown' hgrow hp7 hb7 ho7 p0 pf hc
          have hK0 : 0 ≤ z.tmod 3 % 3 := by omega
          have hK1 : z.tmod 3 % 3 ≤ 2 := by omega
          generalize z.tmod 3 % 3 = K at *
          go_wp2_with fail
          obtain ⟨w8, hw8⟩ : ∃ w8, w8 = w7.setCell ⟨w3.heap.size + 1, 0, none⟩ (.slice (some ⟨g7, 0, none⟩) (i + 1) c7) := ⟨_, rfl⟩
          rw [← hw8]
          have hp8 : w8.heap[w3.heap.size + 1]? = some (.cells #[.slice (some ⟨g7, 0, none⟩) (i + 1) c7] 23 (0, 0)) := by rw [hw8]; exact heap_setCell_same _ _ _ _ _ _ HP7.out
          have hb8 : Below (w3.heap.size + 1) w5 w8 := by rw [hw8]; exact HB7.out.setCell (p := ⟨w3.heap.size + 1, 0, none⟩) (Nat.le_refl _) _
          have ho8 : w8.ownsRow (w3.heap.size + 1 + 1) 37 1 (.slice (some ⟨g7, 0, none⟩) (i + 1) c7) (i + 1) (wordVals (ps ++ [2 * at_])) := by rw [hw8]; exact ownsRow_setCell_below HO7.out (by simp) _
          clear hw8
          refine (lcells_any K hK0 hK1 w8).mono ?_
          rintro e w9 ⟨c, rfl, hc3, hg9⟩
          have hl8 := (Array.getElem?_eq_some_iff.1 hp8).1
          have hp9 := (hg9.block _ hl8).trans hp8
          have hb9 := hb8.trans (hg9.mono (by omega))
          have ho9 := owns_later ho8 hg9
          have HP9 := Lib.hid hp9; have HB9 := Lib.hid hb9; have HO9 := Lib.hid ho9
          clear hp8 hb8 ho8 hg9 hp9 hb9 ho9 q0 qf hl8
          go_wp2_with fail
          go_roundg (n - (i + 1))
          case measure => rw [HGI.out]; omega
          case rel =>
            refine ⟨i + 1, at_ + (2 + c), some ⟨g7, 0, none⟩, c7, ps ++ [2 * at_], rfl, by omega, by go_num, by go_num, by omega, fun h => by omega, fun _ => ?_, by simp; omega, fun x hx => ?_, HP9.out, HO9.out, HB9.out⟩
            · by_cases h0 : i = 0
              · have : ps = [] := List.length_eq_zero_iff.1 (by omega)
                rw [this, HAT.out h0]; rfl
              · have := HPS.out (by omega)
                rw [List.getD_eq_getElem?_getD] at this ⊢
                rw [List.getElem?_append_left (by omega)]; exact this
            · rcases List.mem_append.1 hx with hx | hx
              · exact HPX.out x hx
              · have : x = 2 * at_ := by simpa using hx
                omega
        · have hin' : i = n := by omega
          subst hin'
          have HPS := Lib.hid hps0; have HPX := Lib.hid hpx; have HPB := Lib.hid hpb; have HOW := Lib.hid how; have HBR := Lib.hid hbr
          clear hps0 hpx hpb how hbr hgi hat0
          go_wp2_with fail
          go_meet
          exact ⟨pa, pc, ps, HPS.out, hpl, HPX.out, HPB.out, HOW.out, HBR.out⟩
    case rest =>
      obtain ⟨pa, pc, ps, hps0, hpl, hpx, hpb, how, hbr⟩ := hcut
      obtain ⟨wa, hwa⟩ : ∃ wa, wa = wc := ⟨_, rfl⟩
      rw [← hwa] at hpb how hbr ⊢
      clear hwa
      have hza := hbr.size
      have lp := (Array.getElem?_eq_some_iff.1 hpb).1
      have hst := HB3.out.size
      have b35 : Below w3.heap.size w3 wa := HB4.out.trans (hbr.mono (by omega))
      have hma : ∀ W, W = wa.alloc (.cells #[.int .i64 0] 3) → LayMem w W.heap.size w2.heap.size h w3.heap.size (w3.heap.size + 1) wa.heap.size (.slice a ks.length cap) gv (.slice pa n pc) ps 0 (.slice none 0 0) [] 2 (fun _ => false) (fun _ => 0) W := by
        intro W hW
        have bW : Below w3.heap.size w3 W := by rw [hW]; exact b35.alloc (by omega) _
        have bA : Below wa.heap.size wa W := by rw [hW]; exact (Below.refl _ wa).alloc (Nat.le_refl _) _
        have hzW : W.heap.size = wa.heap.size + 1 := by rw [hW]; simp
        refine ⟨(bW.block _ (by omega)).trans HG3.out, (bW.block _ (by omega)).trans HR3.out, HH3.out.later bW, HLT3.out.far fun q hq => bW.block q (by omega), (bA.block _ (by omega)).trans ((hbr.block _ (by omega)).trans HD4.out), (bA.block _ (by omega)).trans hpb, (words_of_owns how).later bA, fun b o n' c e => ?_, by rw [hW]; exact heap_alloc_new wa _, robjs_none _ _, HB3.out.trans (bW.mono (by omega)), by omega, by omega, by omega, by omega, by omega, Nat.le_refl _⟩
        have := how.lt b (by simp at e; rw [e.1]; rfl)
        omega
      have HMA := Lib.hid hma
      have HPS := Lib.hid hps0; have HPX := Lib.hid hpx
      clear hps0 hpx hpb how hbr b35 lp hma hza y0
      go_upto_block 0 with fail
      obtain ⟨w5', hw5'⟩ : ∃ w5', w5' = wa.alloc (.cells #[.int .i64 0] 3) := ⟨_, rfl⟩
      rw [← hw5']
      have HM0 := Lib.hid (HMA.out w5' hw5')
      clear hw5' HMA
      obtain ⟨E, hE⟩ : ∃ E, E = w5'.heap.size := ⟨_, rfl⟩
      rw [← hE] at HM0
      clear hE
      obtain ⟨C, hC⟩ : ∃ C, C = w2.heap.size := ⟨_, rfl⟩
      rw [← hC] at HM0
      clear hC
      go_loopg [73] n (fun gg s73 wr => ∃ (j nx : Nat) (lv : Value) (os : List RO) (free : Nat) (S : Nat → Bool) (M : Nat → Nat), gg = n - j ∧ j ≤ n ∧ s73 = .int .i64 (j : Int) ∧ os.length = j ∧ nx ≤ 4 * j ∧ (os = [] → lv = .slice none 0 0) ∧ Lays free S M os ∧
        LayMem w E C h w3.heap.size (w3.heap.size + 1) wa.heap.size (.slice a ks.length cap) gv (.slice pa n pc) ps nx lv os free S M wr)
      case atStart => exact ⟨0, 0, _, [], 2, _, _, rfl, by omega, rfl, rfl, by omega, fun _ => rfl, lays_nil, HM0.out⟩
      case round =>
        obtain ⟨j, nx, lv, os, free, S, M, hgj, hjn, rfl, hol, hnx, hlv, hlay, hm⟩ := hrel
        have HGJ := Lib.hid hgj; have HLV := Lib.hid hlv; have HLAY := Lib.hid hlay; have HM := Lib.hid hm
        clear hgj hlv hlay hm HM0
        by_cases hlt : j < n
        · obtain ⟨b, o, hab, hcc, hwf⟩ := KF.out j (by omega)
          obtain ⟨z, hz⟩ : ∃ z, ks[j] = z := ⟨_, rfl⟩
          rw [hz] at hcc hwf
          have bx := bounds_i64 hwf
          have hc := (HM.out.below.cell (p := ⟨b, o + j, none⟩) (lt_of_cell hcc)).trans hcc
          have ht := tmod_bd z
          clear hcc hwf hz
          subst hab
          go_wp2_with fail
          have hK0 : 0 ≤ (z.tmod 3 + 3) % 3 := by omega
          have hK1 : (z.tmod 3 + 3) % 3 ≤ 2 := by omega
          generalize (z.tmod 3 + 3) % 3 = K at *
          clear ht bx hc
          refine (leadc_any _ _ _ nx _ _ _ ls ps wr HM.out.g (HG.out.later HM.out.below) HL.out HM.out.n (by omega) HM.out.p HM.out.pw HPX.out (by omega) (by omega)).mono ?_
          rintro e w7 ⟨x, nx1, rfl, hx, hnx1, hn7, hz7, hq7, hb7⟩
          have HM7 := Lib.hid (HM.out.next hn7 hz7 hq7 hb7)
          clear hn7 hz7 hq7 hb7 HM
          have hps := HPS.out (by omega)
          obtain ⟨pa', pc', hpv, -, -, hpat⟩ := HM7.out.pw.at
          obtain ⟨pb, po, hpa', hpb, hp0⟩ := hpat 0 (by omega)
          simp only [Value.slice.injEq] at hpv
          obtain ⟨rfl, -, rfl⟩ := hpv
          subst hpa'
          rw [hps] at hp0
          have hpc := cellO HM7.out.p 0
          simp at hpc
          rw [Nat.add_zero] at hp0
          clear hpat hps
          go_upto_region 23 with fail
          go_cut [89] from 83 to 88 (fun s89 wx => ∃ t : Bool, s89 = .bool t ∧ (t = false → x ≠ 0 ∧ x % 2 ≠ 1) ∧ wx = w7)
          case first =>
            by_cases h1 : (x : Int) % 2 = 1
            · go_wp2_with fail
              all_goals go_meet
              all_goals exact ⟨true, by simp, fun h => (by cases h), rfl⟩
            · by_cases h0 : (x : Int) = 0
              · go_wp2_with fail
                all_goals go_meet
                all_goals exact ⟨true, by simp, fun h => (by cases h), rfl⟩
              · go_wp2_with fail
                all_goals go_meet
                all_goals exact ⟨false, by simp; omega, fun _ => ⟨by omega, by omega⟩, rfl⟩
          case rest =>
            obtain ⟨t, rfl, hxt, hwc⟩ := hcut
            rw [hwc]
            clear hwc
            go_upto_if 89 with fail
            go_cut [18] from 90 to 92 (fun s18 wx => ∃ c : Nat, s18 = .int .u64 (c : Int) ∧ c < 18446744073709551616 ∧ c ≠ 0 ∧ c % 2 ≠ 1 ∧ wx = w7)
            case first =>
              cases t with
              | true =>
                go_wp2_with fail
                all_goals go_meet
                all_goals exact ⟨4, rfl, by omega, by omega, by omega, rfl⟩
              | false =>
                obtain ⟨x0, x1⟩ := hxt rfl
                go_wp2_with fail
                all_goals go_meet
                all_goals exact ⟨x, rfl, hx, x0, x1, rfl⟩
            case rest =>
              obtain ⟨c, rfl, hcx, hc0, hc1, hwc⟩ := hcut
              rw [hwc]
              clear hwc hp0 hpc hpb hxt hx
              have hfr := HLAY.out.most
              have hor := HM7.out.ord
              have hz : checkZ (c : Int) K 3 0 = 0 := checkZ_ok.2 ⟨by omega, by omega, by omega, by omega, by omega, hK0, hK1⟩
              have HA := Lib.hid (halloc_both (w.heap.size + 2) h free c K S M w7 HM7.out.H (by omega) hcx hz (by omega) HLAY.out.two)
              go_wp2_with fail
              refine HA.out.mono ?_
              rintro e w8 ⟨M8, rfl, hh8, hM0, hM1, hM2, hM3, hM4, hb8, hs8⟩
              have HM8 := Lib.hid (HM7.out.heap hh8 hb8 hs8)
              have HLAY8 := Lib.hid (HLAY.out.add (N := 200) (by omega) hz hcx hM0 hM1 hM2 hM3 hM4)
              clear hh8 hM0 hM1 hM2 hM3 hM4 hb8 hs8 HM7 HA hor
              have hor := HM8.out.ord
              have RA := ralloc_yes E 200 lv os c K w8 HM8.out.ro hor.2.2.2.2.2 (HLAY.out.small (by omega)) hz hcx (by omega) HLV.out rfl (by rw [HLAY.out.used]; unfold cellsZ; rw [if_pos hz]; split <;> omega)
              rw [HLAY.out.used] at RA
              have RAH := Lib.hid RA
              have d0 := cellO HM8.out.d 0
              have d1 := cellO HM8.out.d 1
              have d2 := cellO HM8.out.d 2
              simp at d0 d1 d2
              clear RA hor
              go_wp2_with fail
              refine RAH.out.mono ?_
              rintro e w9 ⟨lv', rfl, hro9, hg9⟩
              have HM9 := Lib.hid (HM8.out.later hg9)
              obtain ⟨la, ln, lc, rfl⟩ : ∃ la ln lc, lv' = .slice la ln lc := by obtain ⟨la, lc, _, h1, -⟩ := hro9; exact ⟨_, _, _, h1⟩
              have HRO9 := Lib.hid hro9
              clear hro9 hg9 d0 d1 d2 RAH HM8
              have d0 := cellO HM9.out.d 0
              have d1 := cellO HM9.out.d 1
              have d2 := cellO HM9.out.d 2
              have f0 : w9.frozen? ⟨w3.heap.size, 0, none⟩ = false := by unfold World.frozen?; rw [HM9.out.d]; rfl
              have f1 : w9.frozen? ⟨w3.heap.size, 1, none⟩ = false := by unfold World.frozen?; rw [HM9.out.d]; rfl
              have f2 : w9.frozen? ⟨w3.heap.size, 2, none⟩ = false := by unfold World.frozen?; rw [HM9.out.d]; rfl
              have m9 : w3.heap.size < w9.heap.size := (Array.getElem?_eq_some_iff.1 HM9.out.d).1
              simp at d0 d1 d2
              go_wp2_with fail
              obtain ⟨w10, hw10⟩ : ∃ w10, w10 = (((w9.setCell ⟨w3.heap.size, 0, none⟩ (.int .i64 200)).setCell ⟨w3.heap.size, 1, none⟩ (.slice la ln lc)).setCell ⟨w3.heap.size, 2, none⟩ (.int .u32 0)).alloc (.cells #[.int .i64 200, .slice la ln lc, .int .u32 0] 31) := ⟨_, rfl⟩
              rw [← hw10]
              obtain ⟨fr, hfre⟩ : ∃ fr, fr = free + 2 + (if K = 2 then 1 else 3) := ⟨_, rfl⟩
              have hfr1 : fr ≤ free + 5 := by rw [hfre]; split <;> omega
              obtain ⟨S', hS'⟩ : ∃ S', S' = setS 200 S (free : Int) true := ⟨_, rfl⟩
              rw [← hfre, ← hS'] at HLAY8 HM9
              clear hS' hfre
              obtain ⟨os8, hos8⟩ : ∃ os8, os8 = os ++ [(⟨free, c, K, newW K, newB K⟩ : RO)] := ⟨_, rfl⟩
              rw [← hos8] at HLAY8 HRO9
              have hl8 : os8.length = j + 1 := by rw [hos8]; simp; omega
              have ho8 : ∃ p : RO, os8[j]? = some p ∧ p.at_ = free ∧ p.kind = K := ⟨_, by rw [hos8, List.getElem?_append_right (by omega)]; rw [show j - os.length = 0 by omega]; rfl, rfl, rfl⟩
              have HM10 := Lib.hid (show LayMem w E C h w3.heap.size (w3.heap.size + 1) wa.heap.size (.slice (some ⟨b, o, none⟩) ks.length cap) gv (.slice (some ⟨pb, po, none⟩) n pc) ps nx1 (.slice la ln lc) os8 fr S' M8 w10 by
                have hd := HM9.out.d
                have h1 := HM9.out.doc (w' := (((w9.setCell ⟨w3.heap.size, 0, none⟩ (.int .i64 200)).setCell ⟨w3.heap.size, 1, none⟩ (.slice la ln lc)).setCell ⟨w3.heap.size, 2, none⟩ (.int .u32 0))) HRO9.out
                  (by rw [heap_setCell_same _ _ _ _ _ _ (heap_setCell_same _ _ _ _ _ _ (heap_setCell_same _ _ _ _ _ _ hd))]; rfl)
                  (by simp [World.setCell]) (fun q hq => by rw [Below.heap_setCell _ _ _ _ hq, Below.heap_setCell _ _ _ _ hq, Below.heap_setCell _ _ _ _ hq])
                  ((((Below.refl w3.heap.size w9).setCell (p := ⟨w3.heap.size, 0, none⟩) (Nat.le_refl _) _).setCell (p := ⟨w3.heap.size, 1, none⟩) (Nat.le_refl _) _).setCell (p := ⟨w3.heap.size, 2, none⟩) (Nat.le_refl _) _)
                rw [hw10]
                exact h1.later ((Below.refl _ _).alloc (Nat.le_refl _) _))
              have HO8 := Lib.hid ho8
              clear hw10 ho8 hos8 HRO9 HM9 d0 d1 d2 f0 f1 f2 HLV
              go_loopg [24] 3 (fun gg s24 wr => ∃ (i nx2 : Nat) (la2 : Option Addr) (ln2 lc2 : Nat) (os2 : List RO) (M2 : Nat → Nat), gg = 3 - i ∧ i ≤ 3 ∧ s24 = .int .i64 (i : Int) ∧ os2.length = j + 1 ∧ nx2 ≤ 4 * j + 1 + i ∧ (∃ p : RO, os2[j]? = some p ∧ p.at_ = free ∧ p.kind = K) ∧ Lays fr S' M2 os2 ∧
                LayMem w E C h w3.heap.size (w3.heap.size + 1) wa.heap.size (.slice (some ⟨b, o, none⟩) ks.length cap) gv (.slice (some ⟨pb, po, none⟩) n pc) ps nx2 (.slice la2 ln2 lc2) os2 fr S' M2 wr)
              case atStart => exact ⟨0, nx1, la, ln, lc, os8, M8, rfl, by omega, rfl, hl8, by omega, HO8.out, HLAY8.out, HM10.out⟩
              case round =>
                obtain ⟨i, nx2, la2, ln2, lc2, os2, M2, hgi, hi3, rfl, hl2, hnx2, ⟨p, hp, hpa, hpk⟩, hlay2, hm2⟩ := hrel
                have HGI := Lib.hid hgi; have HLAY2 := Lib.hid hlay2; have HM2 := Lib.hid hm2; have HP := Lib.hid hp
                clear hgi hlay2 hm2 hp
                by_cases hgo : i < 3 ∧ K ≠ 2
                · obtain ⟨hi, hK2⟩ := hgo
                  have hi' : (i : Int) < 3 := by omega
                  go_wp2_with fail
                  refine (leadc_any _ _ _ nx2 _ _ _ ls ps wr HM2.out.g (HG.out.later HM2.out.below) HL.out HM2.out.n (by omega) HM2.out.p HM2.out.pw HPX.out (by omega) (by omega)).mono ?_
                  rintro e w11 ⟨y, nx3, rfl, hy, hnx3, hn11, hz11, hq11, hb11⟩
                  have HM3 := Lib.hid (HM2.out.next hn11 hz11 hq11 hb11)
                  clear hn11 hz11 hq11 hb11 HM2
                  have hpo := HLAY2.out.obj j p HP.out
                  have hpf := hpo.fit
                  have hpc3 := cellsR_of hpo.check
                  rw [hpk, if_neg hK2] at hpc3
                  obtain ⟨un1, un2, un3⟩ := hpo.un
                  have hwl := (hpo.words (by rw [hpk]; exact hK2)).1
                  have hpb3 : p.bytes.length ≤ 100 := by rw [hpo.bytes]; unfold newB; split <;> simp
                  have hlt200 : fr ≤ 200 := by omega
                  have HPU := Lib.hid (hput_yes (w.heap.size + 2) h 200 fr free i y S' M2 w11 HM3.out.H (by have := HM3.out.ord; omega) (by have := hpo.two; omega) (by omega) (by rw [← hpa]; exact hpo.here) (by rw [← hpa]; exact un1) (by rw [← hpa, un2, hpk]; exact hK2) (by rw [← hpa, un3]; omega) hy)
                  have hnew := HLAY2.out.put (x := y) HP.out (by rw [hpk]; exact hK2) hi
                  rw [show (fun t => if t = p.at_ + 2 + i then y else M2 t) = (fun t => if t = free + 2 + i then y else M2 t) by rw [hpa]] at hnew
                  have HNEW := Lib.hid hnew
                  have hisat := HLAY2.out.isAt HP.out
                  rw [hpa] at hisat
                  have hsm := HLAY2.out.small hlt200
                  clear hnew un1 un2 un3 hpf hpc3 hpo
                  go_wp2_with fail
                  refine HPU.out.mono ?_
                  rintro e w12 ⟨rfl, hh12, hb12, hs12⟩
                  have HM4 := Lib.hid (HM3.out.heap hh12 hb12 hs12)
                  clear hh12 hb12 hs12 HM3 HPU
                  have RP := Lib.hid (rput_yes E 200 (.slice la2 ln2 lc2) os2 (free * 2) j i y p w12 HM4.out.ro HM4.out.ord.2.2.2.2.2 hsm hisat HP.out (by rw [hpk]; exact hK2) hwl hpb3 (by omega) hi hy)
                  have d0 := cellO HM4.out.d 0
                  have d1 := cellO HM4.out.d 1
                  have d2 := cellO HM4.out.d 2
                  simp at d0 d1 d2
                  clear hisat hsm
                  go_wp2_with fail
                  refine RP.out.mono ?_
                  rintro e w13 ⟨lv4, rfl, hro4, hg13⟩
                  have HM5 := Lib.hid (HM4.out.later hg13)
                  obtain ⟨la4, ln4, lc4, rfl⟩ : ∃ la ln lc, lv4 = .slice la ln lc := by obtain ⟨la, lc, _, h1, -⟩ := hro4; exact ⟨_, _, _, h1⟩
                  have HRO4 := Lib.hid hro4
                  clear hro4 hg13 d0 d1 d2 RP HM4
                  have d0 := cellO HM5.out.d 0
                  have d1 := cellO HM5.out.d 1
                  have d2 := cellO HM5.out.d 2
                  have f0 : w13.frozen? ⟨w3.heap.size, 0, none⟩ = false := by unfold World.frozen?; rw [HM5.out.d]; rfl
                  have f1 : w13.frozen? ⟨w3.heap.size, 1, none⟩ = false := by unfold World.frozen?; rw [HM5.out.d]; rfl
                  have f2 : w13.frozen? ⟨w3.heap.size, 2, none⟩ = false := by unfold World.frozen?; rw [HM5.out.d]; rfl
                  simp at d0 d1 d2
                  go_wp2_with fail
                  go_roundg (3 - (i + 1))
                  case measure => rw [HGI.out]; omega
                  case rel =>
                    refine ⟨i + 1, nx3, la4, ln4, lc4, _, _, rfl, by omega, by go_num, ?_, by omega, ?_, HNEW.out, ?_⟩
                    · rw [List.length_set]; exact hl2
                    · exact ⟨_, List.getElem?_set_self (by omega), hpa, hpk⟩
                    · have hd := HM5.out.d
                      exact HM5.out.doc HRO4.out
                        (by rw [heap_setCell_same _ _ _ _ _ _ (heap_setCell_same _ _ _ _ _ _ (heap_setCell_same _ _ _ _ _ _ hd))]; rfl)
                        (by simp [World.setCell]) (fun q hq => by rw [Below.heap_setCell _ _ _ _ hq, Below.heap_setCell _ _ _ _ hq, Below.heap_setCell _ _ _ _ hq])
                        ((((Below.refl w3.heap.size w13).setCell (p := ⟨w3.heap.size, 0, none⟩) (Nat.le_refl _) _).setCell (p := ⟨w3.heap.size, 1, none⟩) (Nat.le_refl _) _).setCell (p := ⟨w3.heap.size, 2, none⟩) (Nat.le_refl _) _)
                · by_cases hi : (i : Int) < 3
                  · obtain rfl : K = 2 := by omega
                    go_wp2_with fail
                    go_roundg (n - (j + 1))
                    case measure => rw [HGJ.out]; omega
                    case rel => exact ⟨j + 1, nx2, _, os2, fr, S', M2, rfl, by omega, by go_num, hl2, by omega, fun e => by rw [e] at hl2; simp at hl2, HLAY2.out, HM2.out⟩
                  · go_wp2_with fail
                    go_roundg (n - (j + 1))
                    case measure => rw [HGJ.out]; omega
                    case rel => exact ⟨j + 1, nx2, _, os2, fr, S', M2, rfl, by omega, by go_num, hl2, by omega, fun e => by rw [e] at hl2; simp at hl2, HLAY2.out, HM2.out⟩
        · obtain rfl : j = n := by omega
          have d0 := cellO HM.out.d 0
          have d1 := cellO HM.out.d 1
          have d2 := cellO HM.out.d 2
          obtain ⟨la, ln, lc, rfl⟩ : ∃ la ln lc, lv = .slice la ln lc := by obtain ⟨la, lc, _, h1, -⟩ := HM.out.ro; exact ⟨_, _, _, h1⟩
          have r0 := cellO HM.out.r 0
          have r1 := cellO HM.out.r 1
          have r2 := cellO HM.out.r 2
          have f0 : wr.frozen? ⟨w.heap.size + 1, 0, none⟩ = false := by unfold World.frozen?; rw [HM.out.r]; rfl
          have f1 : wr.frozen? ⟨w.heap.size + 1, 1, none⟩ = false := by unfold World.frozen?; rw [HM.out.r]; rfl
          have f2 : wr.frozen? ⟨w.heap.size + 1, 2, none⟩ = false := by unfold World.frozen?; rw [HM.out.r]; rfl
          simp at d0 d1 d2 r0 r1 r2
          go_upto_region 37 with fail
          go_region
          all_goals (go_wp2_with fail)
          obtain ⟨wz, hwz⟩ : ∃ wz, wz = (((wr.setCell ⟨w.heap.size + 1, 0, none⟩ (.int .i64 200)).setCell ⟨w.heap.size + 1, 1, none⟩ (.slice la ln lc)).setCell ⟨w.heap.size + 1, 2, none⟩ (.int .u32 0)).drew := ⟨_, rfl⟩
          rw [← hwz]
          have hr := HM.out.r
          have rz : wz.heap[w.heap.size + 1]? = some (.cells #[.int .i64 200, .slice la ln lc, .int .u32 0] 31 (0, 0)) := by
            rw [hwz, drewHeap, heap_setCell_same _ _ _ _ _ _ (heap_setCell_same _ _ _ _ _ _ (heap_setCell_same _ _ _ _ _ _ hr))]; rfl
          have qz : ∀ q, q ≠ w.heap.size + 1 → wz.heap[q]? = wr.heap[q]? := fun q hq => by rw [hwz, drewHeap, Below.heap_setCell _ _ _ _ hq, Below.heap_setCell _ _ _ _ hq, Below.heap_setCell _ _ _ _ hq]
          have bz : Below w.heap.size w wz := by rw [hwz]; exact (((HM.out.below.setCell (by simp) _).setCell (by simp) _).setCell (by simp) _).drew
          have hor := HM.out.ord
          have HZ : HeapAt wz (w.heap.size + 2) h 200 free S M := HM.out.H.other qz
          have roz : RObjs E wz (.slice la ln lc) os := HM.out.ro.stays fun q h1 h2 => qz q (by omega)
          have hlE : h < E := by obtain ⟨g, s, r, n1, n2, m, c, x1, x3, y0, cg, -, -, -, hC, -⟩ := HM.out.lt; omega
          have hlz : HeapLt wz h E := by
            obtain ⟨g, s, r, n1, n2, m, c, x1, x3, y0, cg, l1, l2, l3, hC, hC2, hC3, hC4⟩ := HM.out.lt
            exact ⟨g, s, r, n1, n2, m, c, x1, x3, y0, cg, (qz h (fun e => by rw [e, hr] at l1; simp at l1)).trans l1, (qz s (fun e => by rw [e, hr] at l2; simp at l2)).trans l2, (qz g (fun e => by rw [e, hr] at l3; simp at l3)).trans l3, by omega, by omega, by omega, by omega⟩
          have t0 := cellO rz 0
          have t1 := cellO rz 1
          have t2 := cellO rz 2
          simp at t0 t1 t2
          exact bodyPost_ret (v := .tuple #[.pointer (some ⟨h, 0, none⟩), .agg #[.int .i64 200, .slice la ln lc, .int .u32 0], .bool true]) (by simp [results, Tryd.results5, go_sem, t0, t1, t2]) rfl ⟨h, .slice la ln lc, os, free, S, M, E, rfl, HZ, HLAY.out, by omega, roz, bz, hlE, hlz⟩
theorem lay_lt (kv gv : Value) (ks : List Int) (ls : List Nat) (w : World) (hk : NumsAt w .i64 kv ks) (hg : WordsAt w gv ls) (hls : ∀ x, x ∈ ls → x < 18446744073709551616) :
    Calls Tryd.prog 5 #[.agg #[kv, gv]] w fun e w' => ∃ (h : Nat) (lv : Value) (os : List RO) (free : Nat) (S : Nat → Bool) (M : Nat → Nat) (E : Nat), e = .returned (.tuple #[.pointer (some ⟨h, 0, none⟩), .agg #[.int .i64 200, lv, .int .u32 0], .bool true]) ∧
      HeapAt w' (w.heap.size + 2) h 200 free S M ∧ Lays free S M os ∧ os.length ≤ 14 ∧ RObjs E w' lv os ∧ Below w.heap.size w w' ∧ h < E :=
  (lay_far kv gv ks ls w hk hg hls).mono fun e w' ⟨h, lv, os, free, S, M, E, h1, h2, h3, h4, h5, h6, h7, _⟩ => ⟨h, lv, os, free, S, M, E, h1, h2, h3, h4, h5, h6, h7⟩
theorem lay_any (kv gv : Value) (ks : List Int) (ls : List Nat) (w : World) (hk : NumsAt w .i64 kv ks) (hg : WordsAt w gv ls) (hls : ∀ x, x ∈ ls → x < 18446744073709551616) :
    Calls Tryd.prog 5 #[.agg #[kv, gv]] w fun e w' => ∃ (h : Nat) (lv : Value) (os : List RO) (free : Nat) (S : Nat → Bool) (M : Nat → Nat) (E : Nat), e = .returned (.tuple #[.pointer (some ⟨h, 0, none⟩), .agg #[.int .i64 200, lv, .int .u32 0], .bool true]) ∧
      HeapAt w' (w.heap.size + 2) h 200 free S M ∧ Lays free S M os ∧ os.length ≤ 14 ∧ RObjs E w' lv os ∧ Below w.heap.size w w' := 
  (lay_lt kv gv ks ls w hk hg hls).mono fun e w' ⟨h, lv, os, free, S, M, E, h1, h2, h3, h4, h5, h6, _⟩ => ⟨h, lv, os, free, S, M, E, h1, h2, h3, h4, h5, h6⟩
end Go.Proofs.YtobajnodckiohaaDoor
