/- A collection. -/
import Derived.Test.YtobajnodckiohaaDoorCollE
import Derived.Test.YtobajnodckiohaaDoorLoadD
import Derived.Test.YtobajnodckiohaaDoorImgC
namespace Go.Proofs.YtobajnodckiohaaDoor
open Go.RowKit
set_option linter.unusedVariables false
theorem HeapAt.move {w : World} {B B' h h' N free free' : Nat} {S S' : Nat → Bool} {M M' : Nat → Nat} (H : HeapAt w B h N free S M) (H' : HeapAt w B' h' N free' S' M') (hBB : B ≤ B') (hne : h ≠ h') (L : Nat) (hL : M' 16777216 = L) :
    ∃ g s, w.cell? ⟨h', 0, none⟩ = some (.slice (some ⟨g, 0, none⟩) N N) ∧ w.cell? ⟨h', 1, none⟩ = some (.int .i64 (free' : Int)) ∧ w.cell? ⟨h', 2, none⟩ = some (.pointer (some ⟨s, 0, none⟩)) ∧ w.cell? ⟨h', 3, none⟩ = some (.int .u32 (L : Int)) ∧ h' < w.heap.size ∧
      (∃ c0 c1 c2 c3, w.cell? ⟨h, 0, none⟩ = some c0 ∧ w.cell? ⟨h, 1, none⟩ = some c1 ∧ w.cell? ⟨h, 2, none⟩ = some c2 ∧ w.cell? ⟨h, 3, none⟩ = some c3) ∧ (∀ j, w.frozen? ⟨h, j, none⟩ = false) ∧ h < w.heap.size ∧ B ≤ h ∧
      HeapAt ((((w.setCell ⟨h, 0, none⟩ (.slice (some ⟨g, 0, none⟩) N N)).setCell ⟨h, 1, none⟩ (.int .i64 (free' : Int))).setCell ⟨h, 2, none⟩ (.pointer (some ⟨s, 0, none⟩))).setCell ⟨h, 3, none⟩ (.int .u32 (L : Int))) B h N free' S' M' := by
  obtain ⟨g, s, h1, h2, h3, h3', h4, h5, h6, h7, h8⟩ := H
  obtain ⟨g', s', k1, k2, k3, k3', k4, k5, k6, k7, k8⟩ := H'
  rw [hL] at k5
  generalize M 16777216 = L0 at h5
  have hl := (Array.getElem?_eq_some_iff.1 h5).1
  refine ⟨g', s', by simp [World.cell?, k5], by simp [World.cell?, k5], by simp [World.cell?, k5], by simp [World.cell?, k5], (Array.getElem?_eq_some_iff.1 k5).1, ⟨_, _, _, _, by simp [World.cell?, h5]; rfl, by simp [World.cell?, h5]; rfl, by simp [World.cell?, h5]; rfl, by simp [World.cell?, h5]; rfl⟩, fun j => by unfold World.frozen?; rw [h5]; rfl, hl, h1, ?_⟩
  have e1 := heap_setCell_same w h 0 _ _ (.slice (some ⟨g', 0, none⟩) N N) h5
  have e2 := heap_setCell_same _ h 1 _ _ (.int .i64 (free' : Int)) e1
  have e3 := heap_setCell_same _ h 2 _ _ (.pointer (some ⟨s', 0, none⟩)) e2
  have e4 := heap_setCell_same _ h 3 _ _ (.int .u32 (L : Int)) e3
  have hk := ((((KeepsBut.refl 72 w).setCell (a := ⟨h, 0, none⟩) (u := .slice (some ⟨g', 0, none⟩) N N) ⟨_, _, h5⟩).setCell (a := ⟨h, 1, none⟩) (u := .int .i64 (free' : Int)) ⟨_, _, e1⟩).setCell (a := ⟨h, 2, none⟩) (u := .pointer (some ⟨s', 0, none⟩)) ⟨_, _, e2⟩).setCell (a := ⟨h, 3, none⟩) (u := .int .u32 (L : Int)) ⟨_, _, e3⟩
  have k8' : BitsAt w B s' N S' := by
    obtain ⟨r, cap, m, ws, f, a1, a2, a3, a4, a5, a6, a7, a8, a9⟩ := k8
    exact ⟨r, cap, m, ws, f, by omega, by omega, a3, a4, a5, a6, a7, a8, a9⟩
  exact ⟨g', s', h1, by omega, k3, k3', k4, by rw [hL]; exact e4, hk.row k6 (by decide), k7, k8'.keeps hk (by decide) (by decide)⟩
set_option maxRecDepth 100000 in
set_option maxHeartbeats 1600000 in
theorem load_none (N L : Nat) (w : World) (h0 : 16 ≤ N) (h1 : N ≤ 1000) (hL : L < 16777216) :
    Calls Tryd.prog 34 #[.int .i64 (N : Int), .int .u32 (L : Int), .slice none 0 0] w fun e w' => ∃ h, e = .returned (.tuple #[.pointer (some ⟨h, 0, none⟩), .int .i64 0]) ∧ HeapAt w' w.heap.size h N 2 (fun _ => false) (lastM (fun _ => 0) L) ∧ w.heap.size ≤ h ∧ Below w.heap.size w w' := by
  have NW := Lib.hid (new_yes N h0 (by omega) w)
  have hN2 : ¬ N = 2 := by omega
  have hN3 : ¬ ((N : Int) - 2 < 0) := by omega
  have hN4 : ((N - 2 : Nat) : Int) = (N : Int) - 2 := by omega
  go_enter Tryd.func34, Tryd.ntmps34
  go_wp2_with fail
  refine NW.out.mono ?_
  rintro e w1 ⟨h, rfl, hh1, hg1⟩
  have FR := free_any w.heap.size h N 2 (fun _ => false) (fun _ => 0) w1 hh1
  rw [hN4] at FR
  have FRH := Lib.hid FR
  have HH1 := Lib.hid hh1; have HB1 := Lib.hid hg1
  clear hh1 hg1 FR hN4
  go_wp2_with fail
  refine FRH.out.mono ?_
  rintro e w2 ⟨rfl, hg2⟩
  have HB2 := Lib.hid (HB1.out.trans (hg2.mono HB1.out.size))
  have HH2 := Lib.hid (HH1.out.later hg2)
  clear hg2
  obtain ⟨g, cur, c0, hBg, hhg, hgc, hcs, hcc, hset⟩ := HH2.out.row
  have hcp : ∀ ty, (Builtin.copy_ #[44, 44] ty #[.slice (some ⟨g, 2, none⟩) (N - 2) (N - 2), .slice none 0 0]).run Tryd.prog w2 = .ok (goInt 0) w2 := fun ty =>
    run_copy_nil (P := Tryd.prog) w2 _ _ ty 38 ⟨g, 2, none⟩ (N - 2) (N - 2) Tryd.underlying44 (by kernel_rfl)
  have hgl := (Array.getElem?_eq_some_iff.1 hgc).1
  clear hset hcc hgc
  go_upto_region 6 with fail
  go_upto_region 7 with fail
  all_goals try (exfalso; go_light; omega)
  obtain ⟨f1, fz1, hl3, hBh, hfr⟩ := HH2.out.freed
  obtain ⟨f3, fz3, -, -, -⟩ := HH2.out.lastN
  have hh4 := hfr 2 (by omega)
  have HH5 := Lib.hid (hh4.lastN.2.2.2.2 L (by omega))
  have hlB := HB2.out.size
  have HB5 := Lib.hid ((HB2.out.setCell (p := ⟨h, 1, none⟩) hBh (.int .i64 ((2 : Nat) : Int))).setCell (p := ⟨h, 3, none⟩) hBh (.int .u32 (L : Int)))
  clear hfr hh4 hcp
  go_upto_region 8 with fail
  generalize hw5 : (w2.setCell ⟨h, 1, none⟩ (.int .i64 2)).setCell ⟨h, 3, none⟩ (.int .u32 (L : Int)) = w5 at *
  have HH5' : HeapAt w5 w.heap.size h N 2 (fun _ => false) (lastM (fun _ => 0) L) := HH5.out
  have HB5' : Below w.heap.size w w5 := HB5.out
  have LD := Lib.hid (laid_num w.heap.size h N 2 [] (lastM (fun _ => 0) L) w5 HH5' HB5'.size rfl trivial)
  have HBH := Lib.hid HB5'
  clear f1 fz1 f3 fz3 hw5 HH5' HB5'
  go_wp2_with fail
  refine LD.out.mono ?_
  rintro e w6 ⟨rfl, hh6, hg6⟩
  have HH6 := Lib.hid hh6
  have HB6 := Lib.hid (HBH.out.trans hg6)
  clear hh6 hg6
  go_wp2_with fail
  exact bodyPost_ret (v := .tuple #[.pointer (some ⟨h, 0, none⟩), .int .i64 0]) (by simp [results, Tryd.results34, go_sem]) rfl ⟨h, rfl, HH6.out, hBh, HB6.out⟩
/-- Load, of no words too -/
theorem load_all (N L : Nat) (v : Value) (ws l : List Nat) (w : World) (hv : WordsAt w v ws) (hv0 : ws = [] → v = .slice none 0 0) (hsm : SmallW ws) (h0 : 16 ≤ N) (h1 : N ≤ 1000) (hl : 2 + ws.length ≤ N) (hL : L < 16777216) (hc : Chain5 (lastM (loadM ws) L) (2 + ws.length) 2 l) (hu : UniqH (lastM (loadM ws) L) l) (hln : ws = [] → l = []) :
    Calls Tryd.prog 34 #[.int .i64 (N : Int), .int .u32 (L : Int), v] w fun e w' => ∃ h B, e = .returned (.tuple #[.pointer (some ⟨h, 0, none⟩), .int .i64 0]) ∧ w.heap.size ≤ B ∧ HeapAt w' B h N (2 + ws.length) (setAll N (fun _ => false) l) (lastM (loadM ws) L) ∧ Below w.heap.size w w' := by
  cases ws with
  | nil =>
    obtain rfl := hv0 rfl
    obtain rfl := hln rfl
    refine (load_none N L w h0 h1 hL).mono ?_
    rintro e w' ⟨h, rfl, hh, -, hg⟩
    refine ⟨h, _, rfl, Nat.le_refl _, ?_, hg⟩
    rw [show loadM [] = fun _ => 0 by funext j; unfold loadM; rw [if_neg (fun hh => by simp at hh; omega)]]
    exact hh
  | cons x ws =>
    refine (load_num N L v (x :: ws) l w hv hsm h0 (by omega) (by simp) hl hL hc hu).mono ?_
    rintro e w' ⟨h, rfl, hh, hg⟩
    exact ⟨h, _, rfl, Nat.le_refl _, hh, hg⟩
set_option maxRecDepth 100000 in
set_option maxHeartbeats 3200000 in
theorem collect_any (B h N free : Nat) (S : Nat → Bool) (M : Nat → Nat) (rs : List Nat) (xv : Value) (w : World) (H : HeapAt w B h N free S M) (hB : B ≤ w.heap.size) (hG : GoodH N S M) (c : CollOK N S M) (hx : WordsAt w xv rs) (hrs : ∀ x, x ∈ rs → x < 18446744073709551616) (hl : rs.length ≤ 100)
    (hT : TabAt 0 Lib.deBruijn64tab w) (h16 : 16 ≤ N) (h1000 : N ≤ 900) :
    Calls Tryd.prog 11 #[.pointer (some ⟨h, 0, none⟩), xv] w fun e w' => ∃ (v : Value) (r : Int), e = .returned (.tuple #[v, .int .i64 r]) ∧ Below B w w' ∧ (∀ q, q ≠ h → q < w.heap.size → w'.heap[q]? = w.heap[q]?) ∧
      ((Bad S M rs ∧ r = 13 ∧ v = .slice none 0 0 ∧ HeapAt w' B h N free S M) ∨ (r = 0 ∧ ∃ T, Stay S M rs T ∧ w'.ownsRow w.heap.size 38 1 v rs.length (wordVals (rs.map (turnM M T))) ∧ HeapAt w' B h N (2 + ksum M T N) (setAll N (fun _ => false) (plW M T N)) (newM N M T))) := by
  obtain ⟨i2, hi2, hc0, hc1, hc2⟩ := info_parts cellInfo
  have RE := Lib.hid (reach_words B h N free S M rs xv w H hG hx hrs (by omega))
  have HH := Lib.hid H; have HC := Lib.hid c; have HX := Lib.hid hx; have HRS := Lib.hid hrs; have HT := Lib.hid hT
  have hhl : h < w.heap.size := by obtain ⟨g, s, -, -, -, -, -, h5, -⟩ := H; exact (Array.getElem?_eq_some_iff.1 h5).1
  obtain ⟨xa, xc, rfl, -⟩ := id hx
  clear H hG c hx hrs hT
  go_enter Tryd.func11, Tryd.ntmps11
  go_wp2_with fail
  refine RE.out.mono ?_
  rintro e w1 ⟨hcase, hg1⟩
  have HB1 := Lib.hid hg1
  clear hg1 RE
  rcases hcase with ⟨hbad, rfl⟩ | ⟨hgood, bS, T, rfl, hbit, hTiff⟩
  · have HBAD := Lib.hid hbad
    clear hbad
    go_wp2_with fail
    exact bodyPost_ret (v := .tuple #[.slice none 0 0, .int .i64 13]) (by simp [results, Tryd.results11, go_sem]) rfl ⟨_, _, rfl, HB1.out.mono hB, fun q _ hq => HB1.out.block q hq, Or.inl ⟨HBAD.out, rfl, rfl, HH.out.later HB1.out⟩⟩
  · have HST := Lib.hid (show Stay S M rs T from ⟨hTiff, hgood⟩)
    have HBIT := Lib.hid hbit
    have AR := Lib.hid (arrange_any B w.heap.size h N free bS S T M rs w1 (HH.out.later HB1.out) HC.out HST.out hbit (tab_later HT.out HB1.out))
    have hkb := ksum_bd M T N
    obtain ⟨ns, hns⟩ : ∃ ns, ksum M T N = ns := ⟨_, rfl⟩
    have HNS := Lib.hid hns
    rw [hns] at hkb ⊢
    clear hgood hTiff hbit hns
    go_wp2_with fail
    refine AR.out.mono ?_
    rintro e w2 ⟨pv, rfl, hpo, hg2⟩
    obtain ⟨pa, pn, pc, rfl⟩ := owns_slice hpo
    have HB2 := Lib.hid (HB1.out.trans (hg2.mono HB1.out.size))
    have HPL := Lib.hid (show PlanAt w2 N bS T M (.slice pa pn pc) from ⟨⟨_, HBIT.out.later hg2⟩, _, hpo⟩)
    have HBIT2 := Lib.hid (HBIT.out.later hg2)
    clear hpo hg2 AR
    go_upto_region 6 with fail
    obtain ⟨w3, hw3⟩ : ∃ w3, w3 = w2.alloc (.cells #[.pointer (some ⟨bS, 0, none⟩), .slice pa pn pc] 87) := ⟨_, rfl⟩
    rw [← hw3]
    have hx3 : w3.heap[w2.heap.size]? = some (.cells #[.pointer (some ⟨bS, 0, none⟩), .slice pa pn pc] 87 (0, 0)) := by rw [hw3]; exact heap_alloc_new w2 _
    have hg3 : Below w2.heap.size w2 w3 := by rw [hw3]; exact (Below.refl _ w2).alloc (Nat.le_refl _) _
    have hm3 := (Array.getElem?_eq_some_iff.1 hx3).1
    have HB3 := Lib.hid (HB2.out.trans (hg3.mono HB2.out.size))
    have HX3 := Lib.hid hx3
    have HP3 := Lib.hid (HPL.out.later hg3)
    have HBIT3 := Lib.hid (HBIT2.out.later hg3)
    have NX := Lib.hid (fun W i (hW : Below w3.heap.size w3 W) => next_any _ bS N T i W (HBIT3.out.later hW) (tab_later HT.out (HB3.out.trans (hW.mono HB3.out.size))))
    have WT := Lib.hid (fun W a (hW : Below w3.heap.size w3 W) (ha : T a = true) => words_turned B h N free bS a S T M rs _ W (HH.out.later (HB3.out.trans (hW.mono HB3.out.size))) HC.out HST.out (HP3.out.later hW) ha)
    have TU := Lib.hid (fun W (x : Nat) (hx : x < 18446744073709551616) (hW : Below w3.heap.size w3 W) => turn_any N bS x S T M rs _ W HC.out HST.out (HP3.out.later hW) hx)
    have N3 := Lib.hid (NX.out w3 0 (Below.refl _ _))
    clear hw3 hg3 hx3 HPL HBIT2
    go_wp2_with fail
    refine N3.out.mono ?_
    rintro e w4 ⟨r0, rfl, hr0, hw4⟩
    rw [hw4]
    clear hw4
    have HR0 := Lib.hid hr0
    clear hr0 N3
    go_wp2_with fail
    go_loopg [10, 12] (N + 1) (fun gg s10 s12 wr => ∃ (n : Nat) (r : Int) (va : Option Addr) (vn vc : Nat), gg = N + 1 - n ∧ n ≤ N ∧ s12 = .int .i64 r ∧ IsNext N T n r ∧ s10 = .slice va vn vc ∧ wr.ownsRow w3.heap.size 38 1 (.slice va vn vc) (ksum M T n) (wordVals (allW M T n)) ∧ (allW M T n = [] → va = none ∧ vn = 0 ∧ vc = 0) ∧ Below w3.heap.size w3 wr)
    case atStart => exact ⟨0, r0, none, 0, 0, by omega, by omega, rfl, HR0.out, rfl, World.ownsRow_nil _ _ _ _, fun _ => ⟨rfl, rfl, rfl⟩, Below.refl _ _⟩
    case round =>
      obtain ⟨n, r, va, vn, vc, hg, hn, rfl, hr, rfl, how, hnil, hbr⟩ := hrel
      have HGG := Lib.hid hg; have HBR := Lib.hid hbr
      have hzr := hbr.size
      rcases hr with ⟨rfl, hno⟩ | ⟨a, rfl, haN, hna, hTa, hno⟩
      · obtain ⟨d, hd⟩ : ∃ d, N = n + d := ⟨N - n, by omega⟩
        obtain ⟨e1, -, e3, -⟩ := skip_all (M := M) (T := T) (n := n) (d := d) (fun j h1 h2 => hno j (by omega) (by omega))
        rw [← hd] at e1 e3
        rw [← e1, ← e3, HNS.out] at how
        rw [← e1] at hnil
        have hlw := allW_len M T N
        rw [HNS.out] at hlw
        have hrm := HST.out.room HC.out
        rw [HNS.out] at hrm
        have hsm := new_small HC.out HST.out
        have hchain := new_chain HC.out HST.out
        have huniq := new_uniq HC.out HST.out
        unfold newM at hchain huniq
        rw [HNS.out] at hchain
        have hpn : allW M T N = [] → plW M T N = [] := fun hh => by
          rw [hh] at hlw
          simp at hlw
          cases hpl : plW M T N with
          | nil => rfl
          | cons x l =>
            obtain ⟨b, hb1, hb2, -⟩ := plW_mem.1 (show x ∈ plW M T N by rw [hpl]; exact List.mem_cons_self)
            have := ksum_obj (M := M) hb1 hb2
            rw [HNS.out] at this
            omega
        have HWW := Lib.hid (words_of_owns how)
        obtain ⟨ws, hws⟩ : ∃ ws, allW M T N = ws := ⟨_, rfl⟩
        have HWS := Lib.hid hws
        rw [hws] at hlw hsm hnil hpn HWW
        have LD := Lib.hid (fun W (hW : WordsAt W (.slice va vn vc) ws) => load_all N (M 16777216) _ ws (plW M T N) W hW (fun hh => by obtain ⟨rfl, rfl, rfl⟩ := hnil hh; rfl) hsm h16 (by omega) (by rw [hlw]; omega) HC.out.last (by rw [hlw, ← hws]; exact hchain) (by rw [← hws]; exact huniq) hpn)
        rw [hlw] at LD
        have HB4 := Lib.hid (HB3.out.trans (hbr.mono HB3.out.size))
        have x0 := (hbr.cell (p := ⟨w2.heap.size, 0, none⟩) hm3).trans (cellO HX3.out 0)
        have x1 := (hbr.cell (p := ⟨w2.heap.size, 1, none⟩) hm3).trans (cellO HX3.out 1)
        simp at x0 x1
        obtain ⟨wE, hwE⟩ : ∃ wE, wE = wr := ⟨_, rfl⟩
        rw [← hwE] at HWW HB4 HBR hzr x0 x1 ⊢
        have hml := Nat.lt_of_lt_of_le hm3 hzr
        have X0 := Lib.hid x0; have X1 := Lib.hid x1
        clear hg how hnil hbr hno hd e1 e3 hlw hsm hchain hpn hws hwE hrm x0 x1
        obtain ⟨ts, hts⟩ : ∃ ts, rs.map (turnM M T) = ts := ⟨_, rfl⟩
        have HTS := Lib.hid hts
        clear hts
        go_wp2_with fail
        go_loopg [11, 52] rs.length (fun gg s11 s52 wr => ∃ (j : Nat) (ua : Option Addr) (un uc : Nat), gg = rs.length - j ∧ j ≤ rs.length ∧ s52 = .int .i64 (j : Int) ∧ s11 = .slice ua un uc ∧ wr.ownsRow wE.heap.size 38 1 (.slice ua un uc) j (wordVals (ts.take j)) ∧ Below wE.heap.size wE wr)
        case atStart => exact ⟨0, none, 0, 0, rfl, by omega, rfl, rfl, World.ownsRow_nil _ _ _ _, Below.refl _ _⟩
        case round =>
          obtain ⟨j, ua, un, uc, hgj, hj, rfl, rfl, how, hbr⟩ := hrel
          have HGJ := Lib.hid hgj; have HOW := Lib.hid how; have HBF := Lib.hid hbr
          have hzf := hbr.size
          by_cases hlt : j < rs.length
          · obtain ⟨xa', xc', hue, -, -, hcu⟩ := ((HX.out.later HB4.out).later hbr).get
            simp only [Value.slice.injEq, true_and] at hue
            obtain ⟨rfl, rfl⟩ := hue
            obtain ⟨xb, xo, rfl, hxl, hxc⟩ := hcu j hlt
            have hxs := HRS.out _ (List.getElem_mem hlt)
            have HN := Lib.hid (show ts.take (j + 1) = ts.take j ++ [turnM M T rs[j]] by rw [List.take_succ_eq_append_getElem (show j < ts.length by rw [← HTS.out, List.length_map]; exact hlt)]; congr 2; simp only [← HTS.out, List.getElem_map])
            obtain ⟨x, hx⟩ : ∃ x, rs[j] = x := ⟨_, rfl⟩
            rw [hx] at hxc hxs HN
            have TX := Lib.hid (TU.out wr x hxs (HBR.out.trans (hbr.mono hzr)))
            obtain ⟨ty, hty⟩ : ∃ ty, turnM M T x = ty := ⟨_, rfl⟩
            rw [hty] at HN TX
            have x0 := (hbr.cell (p := ⟨w2.heap.size, 0, none⟩) hml).trans X0.out
            have x1 := (hbr.cell (p := ⟨w2.heap.size, 1, none⟩) hml).trans X1.out
            clear hgj how hbr hcu hx hty hxs
            go_wp2_with fail
            refine TX.out.mono ?_
            rintro e w6 ⟨rfl, hg6⟩
            have HB6 := Lib.hid (HBF.out.trans (hg6.mono hzf))
            have HO6 := Lib.hid (owns_later HOW.out hg6)
            have hz6 := HB6.out.size
            clear hg6 x0 x1 hxc
            go_wp2_with (at_builtin; refine wpList_append_own _ rfl _ _ 44 rfl wE.heap.size 38 i2 (.int .u64 0) 1 8 Tryd.underlying44 hi2 hc0 hc1 hc2 rfl (by decide) _ _ _ rfl (HO6.out.alloc _) ⟨w6.heap.size, 0, none⟩ 1 1 [.int .u64 (ty : Int)] rfl rfl ?c1 ?c2 ?c3 ?c4 ?c5 ?_)
            case c1 =>
              intro k u hk
              match k, hk with
              | 0, hk => simp at hk; subst hk; simp [Addr.add]
            case c2 => intro u hu; simp at hu; subst hu; rfl
            case c3 => unfold maxLen; omega
            case c4 => omega
            case c5 => simp; omega
            intro v' w7 hown' hgrow _
            obtain ⟨g7, c7, rfl, hg7, -⟩ := World.ownsRow.form hown' (by omega)
            have HO7 := Lib.hid (show w7.ownsRow wE.heap.size 38 1 (.slice (some ⟨g7, 0, none⟩) (j + 1) c7) (j + 1) (wordVals (ts.take (j + 1))) by
              rw [HN.out, show wordVals (ts.take j ++ [ty]) = wordVals (ts.take j) ++ [.int .u64 (ty : Int)] by simp [wordVals]]
              exact hown')
            have HB7 := Lib.hid ((HB6.out.alloc (by omega) _).grown hgrow (by simp; omega) (fun q hq => (HO6.out.lt q hq).1))
            clear hown' hgrow
            go_wp2_with fail
            go_roundg (rs.length - (j + 1))
            case measure => rw [HGJ.out]; omega
            case rel => exact ⟨j + 1, _, _, _, rfl, by omega, by go_num, rfl, HO7.out, HB7.out⟩
          · have hjl : j = rs.length := by omega
            have HOUT := Lib.hid (show wr.ownsRow wE.heap.size 38 1 (.slice ua un uc) rs.length (wordVals (rs.map (turnM M T))) by
              rw [HTS.out]
              rw [hjl, List.take_of_length_le (by rw [← HTS.out, List.length_map]; exact Nat.le_refl _)] at how; exact how)
            have HB5 := Lib.hid (HB4.out.trans (hbr.mono HB4.out.size))
            have HH5 := Lib.hid (HH.out.later HB5.out)
            have LDR := Lib.hid (LD.out wr (HWW.out.later hbr))
            have CE := Lib.hid (hcells_any B h N free S M wr HH5.out)
            have LA := Lib.hid (hlast_any B h N free S M wr HH5.out)
            have hz5 := HB5.out.size
            clear hgj how hbr hjl
            go_wp2_with fail
            all_goals try (exfalso; go_light; omega)
            refine CE.out.mono ?_
            rintro e w6 ⟨rfl, hw6⟩
            rw [hw6]
            clear hw6
            go_wp2_with fail
            refine LA.out.mono ?_
            rintro e w7 ⟨rfl, hw7⟩
            rw [hw7]
            clear hw7
            go_wp2_with fail
            refine LDR.out.mono ?_
            rintro e w8 ⟨h8, B8, rfl, hB8, hh8, hg8⟩
            have HB8 := Lib.hid (HB5.out.trans (hg8.mono hz5))
            have HO8 := Lib.hid (owns_later HOUT.out hg8)
            have hBh8 : B8 ≤ h8 := by obtain ⟨g, s, h1, -⟩ := hh8; exact h1
            obtain ⟨g9, s9, c0, c1, c2, c3, hl8, ⟨k0, k1, k2, k3, d0, d1, d2, d3⟩, hfz, hhl8, hBh, hmv⟩ := HeapAt.move (HH5.out.later hg8) hh8 (by omega) (by omega) (M 16777216) (lastM_last _ _)
            have f0 := hfz 0
            have f1 := hfz 1
            have f2 := hfz 2
            have f3 := hfz 3
            have HMV := Lib.hid hmv
            clear hg8 hh8 hfz hmv
            have hzE := HB4.out.size
            go_wp2_with fail
            refine bodyPost_ret (v := .tuple #[.slice ua un uc, .int .i64 0]) (by simp [results, Tryd.results11, go_sem]) rfl ⟨_, 0, rfl, ?_, fun q hq hql => ?_, Or.inr ⟨rfl, T, HST.out, ?_, ?_⟩⟩
            · exact ((((HB8.out.mono hB).setCell (p := ⟨h, 0, none⟩) hBh _).setCell (p := ⟨h, 1, none⟩) hBh _).setCell (p := ⟨h, 2, none⟩) hBh _).setCell (p := ⟨h, 3, none⟩) hBh _
            · rw [Below.heap_setCell _ _ _ _ hq, Below.heap_setCell _ _ _ _ hq, Below.heap_setCell _ _ _ _ hq, Below.heap_setCell _ _ _ _ hq]
              exact HB8.out.block q hql
            · exact owns_mono (ownsRow_setCell_below (ownsRow_setCell_below (ownsRow_setCell_below (ownsRow_setCell_below HO8.out (by show h < _; omega) _) (by show h < _; omega) _) (by show h < _; omega) _) (by show h < _; omega) _) hzE
            · rw [HNS.out, show newM N M T = lastM (loadM ws) (M 16777216) by unfold newM; rw [HWS.out]]
              exact HMV.out
      · obtain ⟨d, rfl⟩ : ∃ d, a = n + d := ⟨a - n, by omega⟩
        obtain ⟨e1, -, e3, -⟩ := skip_all (M := M) (T := T) (n := n) (d := d) (fun j h1 h2 => hno j (by omega) h2)
        rw [← e1, ← e3] at how
        obtain ⟨a, haa⟩ : ∃ a, a = n + d := ⟨_, rfl⟩
        rw [← haa] at how haN hTa ⊢
        have HAN := Lib.hid haa
        have hS := HST.out.sub hTa
        have ha2 := (HC.out.lt hS).2
        have hlen := objW_len M T a
        have hks := ksum_obj (M := M) haN hTa
        have hrm := HST.out.room HC.out
        have AK := Lib.hid (show allW M T (a + 1) = allW M T a ++ objW M T a by show allW M T a ++ (if T a = true then _ else _) = _; rw [if_pos hTa])
        have SK := Lib.hid (show ksum M T (a + 1) = ksum M T a + (2 + cz M a) by show ksum M T a + (if T a = true then _ else _) = _; rw [if_pos hTa])
        have WA := Lib.hid (WT.out wr a hbr hTa)
        have PT := Lib.hid (fun W => ptr_yes (a : Int) (by omega) (by omega) W)
        have HOW := Lib.hid how
        have x0 := (hbr.cell (p := ⟨w2.heap.size, 0, none⟩) hm3).trans (cellO HX3.out 0)
        have x1 := (hbr.cell (p := ⟨w2.heap.size, 1, none⟩) hm3).trans (cellO HX3.out 1)
        simp at x0 x1
        obtain ⟨q, hq⟩ : ∃ q, 2 + cz M a = q := ⟨_, rfl⟩
        rw [hq] at hlen WA SK
        obtain ⟨ks, hk⟩ : ∃ ks, ksum M T a = ks := ⟨_, rfl⟩
        rw [hk] at HOW SK hks
        obtain ⟨ow, how2⟩ : ∃ ow, objW M T a = ow := ⟨_, rfl⟩
        rw [how2] at hlen WA AK
        have hsum : ks + ow.length ≤ 1000 := by omega
        have HLEN := Lib.hid hlen
        have hq2 : 2 ≤ q := by omega
        clear hg how hnil hbr hno hna e1 e3 haa hS hq hk how2 hks hrm hlen
        go_wp2_with fail
        refine (PT.out _).mono ?_
        rintro e w5 ⟨rfl, hw5⟩
        rw [← hw5]
        clear hw5
        go_wp2_with fail
        refine WA.out.mono ?_
        rintro e w6 ⟨v6, rfl, ho6, hg6⟩
        obtain ⟨v6a, v6n, v6c, rfl⟩ := owns_slice ho6
        have HB6 := Lib.hid (HBR.out.trans (hg6.mono hzr))
        have HO6 := Lib.hid (owns_later HOW.out hg6)
        have W6 := Lib.hid (words_of_owns ho6)
        have hz6 := HB6.out.size
        clear ho6 hg6 x0 x1
        go_wp2_with (at_builtin; refine wpList_append_words rfl _ _ 44 rfl w3.heap.size 38 i2 Tryd.underlying44 hi2 hc0 hc1 hc2 _ _ _ rfl HO6.out _ ow rfl W6.out ?c1 ?c2 ?_)
        case c1 => exact hsum
        case c2 => exact hz6
        intro v7 w7 ho7 hgr7
        obtain ⟨v7a, v7n, v7c, rfl⟩ := owns_slice ho7
        have HB7 := Lib.hid (HB6.out.grown hgr7 hz6 (fun q hq => (HO6.out.lt q hq).1))
        have HO7 := Lib.hid (show w7.ownsRow w3.heap.size 38 1 (.slice v7a v7n v7c) (ksum M T (a + 1)) (wordVals (allW M T (a + 1))) by
          rw [SK.out, AK.out, ← HLEN.out, show wordVals (allW M T a ++ ow) = wordVals (allW M T a) ++ wordVals ow by simp [wordVals]]
          exact ho7)
        have N7 := Lib.hid (NX.out w7 ((a : Int) + 1) HB7.out)
        clear ho7 hgr7
        go_wp2_with fail
        refine N7.out.mono ?_
        rintro e w8 ⟨r', rfl, hr', hw8⟩
        rw [hw8]
        clear hw8
        have HR' := Lib.hid hr'
        clear hr' N7
        go_wp2_with fail
        go_roundg (N + 1 - (a + 1))
        case measure => rw [HGG.out]; have := HAN.out; omega
        case rel => exact ⟨a + 1, r', _, _, _, rfl, by omega, rfl, HR'.out, rfl, HO7.out, fun hh => by (have h1 := congrArg List.length hh; rw [AK.out, List.length_append, List.length_nil] at h1; have h2 := HLEN.out; omega), HB7.out⟩
end Go.Proofs.YtobajnodckiohaaDoor
