/- A collection. Memory behind a collection is good memory, of which all is led to: the plain law. Memory behind a collection, in as many cells as one likes; images of it. -/
import Derived.Test.YtibopjjicfiimaaGreatDoorCollE
import Derived.Test.YtibopjjicfiimaaGreatDoorLoadD
import Derived.Test.YtibopjjicfiimaaGreatDoorImgE
import Derived.Test.YtibopjjicfiimaaGreatDoorLoadF
import Derived.Test.YtibopjjicfiimaaGreatDoorOrdA
namespace Go.Proofs.YtibopjjicfiimaaGreatDoor
open Go.RowKit
set_option linter.unusedVariables false
theorem HeapAt.move {w : World} {B B' h h' N free free' : Nat} {S S' : Nat → Bool} {M M' : Nat → Nat} (H : HeapAt w B h N free S M) (H' : HeapAt w B' h' N free' S' M') (hBB : B ≤ B') (hne : h ≠ h') :
    ∃ g s, w.cell? ⟨h', 0, none⟩ = some (.slice (some ⟨g, 0, none⟩) N N) ∧ w.cell? ⟨h', 1, none⟩ = some (.int .i64 (free' : Int)) ∧ w.cell? ⟨h', 2, none⟩ = some (.pointer (some ⟨s, 0, none⟩)) ∧ w.cell? ⟨h', 3, none⟩ = some (.int .u32 0) ∧ h' < w.heap.size ∧
      (∃ c0 c1 c2 c3, w.cell? ⟨h, 0, none⟩ = some c0 ∧ w.cell? ⟨h, 1, none⟩ = some c1 ∧ w.cell? ⟨h, 2, none⟩ = some c2 ∧ w.cell? ⟨h, 3, none⟩ = some c3) ∧ (∀ j, w.frozen? ⟨h, j, none⟩ = false) ∧ h < w.heap.size ∧ B ≤ h ∧
      HeapAt ((((w.setCell ⟨h, 0, none⟩ (.slice (some ⟨g, 0, none⟩) N N)).setCell ⟨h, 1, none⟩ (.int .i64 (free' : Int))).setCell ⟨h, 2, none⟩ (.pointer (some ⟨s, 0, none⟩))).setCell ⟨h, 3, none⟩ (.int .u32 0)) B h N free' S' M' := by
  obtain ⟨g, s, h1, h2, h3, h3', h4, h5, h6, h7, h8⟩ := H
  obtain ⟨g', s', k1, k2, k3, k3', k4, k5, k6, k7, k8⟩ := H'
  have hl := (Array.getElem?_eq_some_iff.1 h5).1
  refine ⟨g', s', by simp [World.cell?, k5], by simp [World.cell?, k5], by simp [World.cell?, k5], by simp [World.cell?, k5], (Array.getElem?_eq_some_iff.1 k5).1, ⟨_, _, _, _, by simp [World.cell?, h5]; rfl, by simp [World.cell?, h5]; rfl, by simp [World.cell?, h5]; rfl, by simp [World.cell?, h5]; rfl⟩, fun j => by unfold World.frozen?; rw [h5]; rfl, hl, h1, ?_⟩
  have e1 := heap_setCell_same w h 0 _ _ (.slice (some ⟨g', 0, none⟩) N N) h5
  have e2 := heap_setCell_same _ h 1 _ _ (.int .i64 (free' : Int)) e1
  have e3 := heap_setCell_same _ h 2 _ _ (.pointer (some ⟨s', 0, none⟩)) e2
  have e4 := heap_setCell_same _ h 3 _ _ (.int .u32 0) e3
  have hk := ((((KeepsBut.refl 96 w).setCell (a := ⟨h, 0, none⟩) (u := .slice (some ⟨g', 0, none⟩) N N) ⟨_, _, h5⟩).setCell (a := ⟨h, 1, none⟩) (u := .int .i64 (free' : Int)) ⟨_, _, e1⟩).setCell (a := ⟨h, 2, none⟩) (u := .pointer (some ⟨s', 0, none⟩)) ⟨_, _, e2⟩).setCell (a := ⟨h, 3, none⟩) (u := .int .u32 0) ⟨_, _, e3⟩
  have k8' : BitsAt w B s' N S' := by
    obtain ⟨r, cap, m, ws, f, a1, a2, a3, a4, a5, a6, a7, a8, a9⟩ := k8
    exact ⟨r, cap, m, ws, f, by omega, by omega, a3, a4, a5, a6, a7, a8, a9⟩
  exact ⟨g', s', h1, by omega, k3, k3', k4, e4, hk.row k6 (by decide), k7, k8'.keeps hk (by decide) (by decide)⟩
set_option maxRecDepth 100000 in
set_option maxHeartbeats 1600000 in
theorem load_none (N : Nat) (w : World) (h0 : 16 ≤ N) (h1 : N ≤ 6000) :
    Calls Tryz.prog 20 #[.int .i64 (N : Int), .int .u32 0, .slice none 0 0] w fun e w' => ∃ h, e = .returned (.tuple #[.pointer (some ⟨h, 0, none⟩), .int .i64 0]) ∧ HeapAt w' w.heap.size h N 2 (fun _ => false) (fun _ => 0) ∧ w.heap.size ≤ h ∧ Below w.heap.size w w' := by
  have NW := Lib.hid (new_yes N h0 (by omega) w)
  have hN2 : ¬ N = 2 := by omega
  have hN3 : ¬ ((N : Int) - 2 < 0) := by omega
  have hN4 : ((N - 2 : Nat) : Int) = (N : Int) - 2 := by omega
  go_enter Tryz.func20, Tryz.ntmps20
  go_wp2_with fail
  refine NW.out.mono ?_
  rintro e w1 ⟨h, rfl, hh1, hg1⟩
  have FR := free_any w.heap.size h N 2 (fun _ => false) (fun _ => 0) w1 hh1
  rw [hN4] at FR
  have FRH := Lib.hid FR
  have HH1 := Lib.hid hh1; have HB1 := Lib.hid hg1
  clear hh1 hg1 FR hN4
  go_wp2_with fail
  refine FRH.out.mono ?_
  rintro e w2 ⟨rfl, hg2⟩
  have HB2 := Lib.hid (HB1.out.trans (hg2.mono HB1.out.size))
  have HH2 := Lib.hid (HH1.out.later hg2)
  clear hg2
  obtain ⟨g, cur, c0, hBg, hhg, hgc, hcs, hcc, hset⟩ := HH2.out.row
  have hcp : ∀ ty, (Builtin.copy_ #[40, 40] ty #[.slice (some ⟨g, 2, none⟩) (N - 2) (N - 2), .slice none 0 0]).run Tryz.prog w2 = .ok (goInt 0) w2 := fun ty =>
    run_copy_nil (P := Tryz.prog) w2 _ _ ty 39 ⟨g, 2, none⟩ (N - 2) (N - 2) Tryz.underlying40 (by kernel_rfl)
  have hgl := (Array.getElem?_eq_some_iff.1 hgc).1
  clear hset hcc hgc
  go_upto_region 6 with fail
  go_upto_region 7 with fail
  all_goals try (exfalso; go_light; omega)
  obtain ⟨f1, fz1, hl3, hBh, hfr⟩ := HH2.out.freed
  obtain ⟨f3, fz3, -⟩ := HH2.out.last0
  have hh4 := hfr 2 (by omega)
  obtain ⟨-, -, hh5⟩ := hh4.last0
  have HH5 := Lib.hid hh5
  have hlB := HB2.out.size
  have HB5 := Lib.hid ((HB2.out.setCell (p := ⟨h, 1, none⟩) hBh (.int .i64 ((2 : Nat) : Int))).setCell (p := ⟨h, 3, none⟩) hBh (.int .u32 0))
  clear hfr hh4 hh5 hcp
  go_upto_region 8 with fail
  generalize hw5 : (w2.setCell ⟨h, 1, none⟩ (.int .i64 2)).setCell ⟨h, 3, none⟩ (.int .u32 0) = w5 at *
  have HH5' : HeapAt w5 w.heap.size h N 2 (fun _ => false) (fun _ => 0) := HH5.out
  have HB5' : Below w.heap.size w w5 := HB5.out
  have LD := Lib.hid (laid_yes w.heap.size h N 2 [] (fun _ => 0) w5 HH5' HB5'.size rfl)
  have HBH := Lib.hid HB5'
  clear f1 fz1 f3 fz3 hw5 HH5' HB5'
  go_wp2_with fail
  refine LD.out.mono ?_
  rintro e w6 ⟨rfl, hh6, hg6⟩
  have HH6 := Lib.hid hh6
  have HB6 := Lib.hid (HBH.out.trans hg6)
  clear hh6 hg6
  go_wp2_with fail
  exact bodyPost_ret (v := .tuple #[.pointer (some ⟨h, 0, none⟩), .int .i64 0]) (by simp [results, Tryz.results20, go_sem]) rfl ⟨h, rfl, HH6.out, hBh, HB6.out⟩
/-- Load, of no words too -/
theorem load_all (N : Nat) (v : Value) (ws l : List Nat) (w : World) (hv : WordsAt w v ws) (hv0 : ws = [] → v = .slice none 0 0) (hsm : SmallW ws) (h0 : 16 ≤ N) (h1 : N ≤ 6000) (hl : 2 + ws.length ≤ N) (hc : Chain4 (loadM ws) (2 + ws.length) 2 l) (hln : ws = [] → l = []) :
    Calls Tryz.prog 20 #[.int .i64 (N : Int), .int .u32 0, v] w fun e w' => ∃ h B, e = .returned (.tuple #[.pointer (some ⟨h, 0, none⟩), .int .i64 0]) ∧ w.heap.size ≤ B ∧ HeapAt w' B h N (2 + ws.length) (setAll N (fun _ => false) l) (loadM ws) ∧ Below w.heap.size w w' := by
  cases ws with
  | nil =>
    obtain rfl := hv0 rfl
    obtain rfl := hln rfl
    refine (load_none N w h0 h1).mono ?_
    rintro e w' ⟨h, rfl, hh, -, hg⟩
    refine ⟨h, _, rfl, Nat.le_refl _, ?_, hg⟩
    rw [show loadM [] = fun _ => 0 by funext j; unfold loadM; rw [if_neg (fun hh => by simp at hh; omega)]]
    exact hh
  | cons x ws =>
    refine (load_yes N v (x :: ws) l w hv hsm h0 (by omega) (by simp) hl hc).mono ?_
    rintro e w' ⟨h, rfl, hh, hg⟩
    exact ⟨h, _, rfl, Nat.le_refl _, hh, hg⟩
set_option maxRecDepth 100000 in
set_option maxHeartbeats 3200000 in
theorem collect_any (B h N free : Nat) (S : Nat → Bool) (M : Nat → Nat) (rs : List Nat) (xv : Value) (w : World) (H : HeapAt w B h N free S M) (hB : B ≤ w.heap.size) (hG : GoodH N S M) (c : CollOK N S M) (hx : WordsAt w xv rs) (hrs : ∀ x, x ∈ rs → x < 18446744073709551616) (hl : rs.length ≤ 100)
    (hT : TabAt 0 Lib.deBruijn64tab w) (h16 : 16 ≤ N) (h1000 : N ≤ 6000) :
    Calls Tryz.prog 8 #[.pointer (some ⟨h, 0, none⟩), xv] w fun e w' => ∃ (v : Value) (r : Int), e = .returned (.tuple #[v, .int .i64 r]) ∧ Below B w w' ∧ (∀ q, q ≠ h → q < w.heap.size → w'.heap[q]? = w.heap[q]?) ∧
      ((Bad S M rs ∧ r = 13 ∧ v = .slice none 0 0 ∧ HeapAt w' B h N free S M) ∨ (r = 0 ∧ ∃ T, Stay S M rs T ∧ w'.ownsRow w.heap.size 39 1 v rs.length (wordVals (rs.map (turnM M T))) ∧ HeapAt w' B h N (2 + ksum M T N) (setAll N (fun _ => false) (plW M T N)) (newM N M T))) := by
  obtain ⟨i2, hi2, hc0, hc1, hc2⟩ := info_parts cellInfo
  have RE := Lib.hid (reach_words B h N free S M rs xv w H hG hx hrs (by omega))
  have HH := Lib.hid H; have HC := Lib.hid c; have HX := Lib.hid hx; have HRS := Lib.hid hrs; have HT := Lib.hid hT
  have hhl : h < w.heap.size := by obtain ⟨g, s, -, -, -, -, -, h5, -⟩ := H; exact (Array.getElem?_eq_some_iff.1 h5).1
  obtain ⟨xa, xc, rfl, -⟩ := id hx
  clear H hG c hx hrs hT
  go_enter Tryz.func8, Tryz.ntmps8
  go_wp2_with fail
  refine RE.out.mono ?_
  rintro e w1 ⟨hcase, hg1⟩
  have HB1 := Lib.hid hg1
  clear hg1 RE
  rcases hcase with ⟨hbad, rfl⟩ | ⟨hgood, bS, T, rfl, hbit, hTiff⟩
  · have HBAD := Lib.hid hbad
    clear hbad
    go_wp2_with fail
    exact bodyPost_ret (v := .tuple #[.slice none 0 0, .int .i64 13]) (by simp [results, Tryz.results8, go_sem]) rfl ⟨_, _, rfl, HB1.out.mono hB, fun q _ hq => HB1.out.block q hq, Or.inl ⟨HBAD.out, rfl, rfl, HH.out.later HB1.out⟩⟩
  · have HST := Lib.hid (show Stay S M rs T from ⟨hTiff, hgood⟩)
    have HBIT := Lib.hid hbit
    have AR := Lib.hid (arrange_any B w.heap.size h N free bS S T M rs w1 (HH.out.later HB1.out) HC.out HST.out hbit (tab_later HT.out HB1.out))
    have hkb := ksum_bd M T N
    obtain ⟨ns, hns⟩ : ∃ ns, ksum M T N = ns := ⟨_, rfl⟩
    have HNS := Lib.hid hns
    rw [hns] at hkb ⊢
    clear hgood hTiff hbit hns
    go_wp2_with fail
    refine AR.out.mono ?_
    rintro e w2 ⟨pv, rfl, hpo, hg2⟩
    obtain ⟨pa, pn, pc, rfl⟩ := owns_slice hpo
    have HB2 := Lib.hid (HB1.out.trans (hg2.mono HB1.out.size))
    have HPL := Lib.hid (show PlanAt w2 N bS T M (.slice pa pn pc) from ⟨⟨_, HBIT.out.later hg2⟩, _, hpo⟩)
    have HBIT2 := Lib.hid (HBIT.out.later hg2)
    clear hpo hg2 AR
    go_upto_region 6 with fail
    obtain ⟨w3, hw3⟩ : ∃ w3, w3 = w2.alloc (.cells #[.pointer (some ⟨bS, 0, none⟩), .slice pa pn pc] 86) := ⟨_, rfl⟩
    rw [← hw3]
    have hx3 : w3.heap[w2.heap.size]? = some (.cells #[.pointer (some ⟨bS, 0, none⟩), .slice pa pn pc] 86 (0, 0)) := by rw [hw3]; exact heap_alloc_new w2 _
    have hg3 : Below w2.heap.size w2 w3 := by rw [hw3]; exact (Below.refl _ w2).alloc (Nat.le_refl _) _
    have hm3 := (Array.getElem?_eq_some_iff.1 hx3).1
    have HB3 := Lib.hid (HB2.out.trans (hg3.mono HB2.out.size))
    have HX3 := Lib.hid hx3
    have HP3 := Lib.hid (HPL.out.later hg3)
    have HBIT3 := Lib.hid (HBIT2.out.later hg3)
    have NX := Lib.hid (fun W i (hW : Below w3.heap.size w3 W) => next_any _ bS N T i W (HBIT3.out.later hW) (tab_later HT.out (HB3.out.trans (hW.mono HB3.out.size))))
    have WT := Lib.hid (fun W a (hW : Below w3.heap.size w3 W) (ha : T a = true) => words_turned B h N free bS a S T M rs _ W (HH.out.later (HB3.out.trans (hW.mono HB3.out.size))) HC.out HST.out (HP3.out.later hW) ha)
    have TU := Lib.hid (fun W (x : Nat) (hx : x < 18446744073709551616) (hW : Below w3.heap.size w3 W) => turn_any N bS x S T M rs _ W HC.out HST.out (HP3.out.later hW) hx)
    have N3 := Lib.hid (NX.out w3 0 (Below.refl _ _))
    clear hw3 hg3 hx3 HPL HBIT2
    go_wp2_with fail
    refine N3.out.mono ?_
    rintro e w4 ⟨r0, rfl, hr0, hw4⟩
    rw [hw4]
    clear hw4
    have HR0 := Lib.hid hr0
    clear hr0 N3
    go_wp2_with fail
    go_loopg [10, 12] (N + 1) (fun gg s10 s12 wr => ∃ (n : Nat) (r : Int) (va : Option Addr) (vn vc : Nat), gg = N + 1 - n ∧ n ≤ N ∧ s12 = .int .i64 r ∧ IsNext N T n r ∧ s10 = .slice va vn vc ∧ wr.ownsRow w3.heap.size 39 1 (.slice va vn vc) (ksum M T n) (wordVals (allW M T n)) ∧ (allW M T n = [] → va = none ∧ vn = 0 ∧ vc = 0) ∧ Below w3.heap.size w3 wr)
    case atStart => exact ⟨0, r0, none, 0, 0, by omega, by omega, rfl, HR0.out, rfl, World.ownsRow_nil _ _ _ _, fun _ => ⟨rfl, rfl, rfl⟩, Below.refl _ _⟩
    case round =>
      obtain ⟨n, r, va, vn, vc, hg, hn, rfl, hr, rfl, how, hnil, hbr⟩ := hrel
      have HGG := Lib.hid hg; have HBR := Lib.hid hbr
      have hzr := hbr.size
      rcases hr with ⟨rfl, hno⟩ | ⟨a, rfl, haN, hna, hTa, hno⟩
      · obtain ⟨d, hd⟩ : ∃ d, N = n + d := ⟨N - n, by omega⟩
        obtain ⟨e1, -, e3, -⟩ := skip_all (M := M) (T := T) (n := n) (d := d) (fun j h1 h2 => hno j (by omega) (by omega))
        rw [← hd] at e1 e3
        rw [← e1, ← e3, HNS.out] at how
        rw [← e1] at hnil
        have hlw := allW_len M T N
        rw [HNS.out] at hlw
        have hrm := HST.out.room HC.out
        rw [HNS.out] at hrm
        have hsm := new_small HC.out HST.out
        have hchain := new_chain HC.out HST.out
        rw [HNS.out] at hchain
        have hpn : allW M T N = [] → plW M T N = [] := fun hh => by
          rw [hh] at hlw
          simp at hlw
          cases hpl : plW M T N with
          | nil => rfl
          | cons x l =>
            obtain ⟨b, hb1, hb2, -⟩ := plW_mem.1 (show x ∈ plW M T N by rw [hpl]; exact List.mem_cons_self)
            have := ksum_obj (M := M) hb1 hb2
            rw [HNS.out] at this
            omega
        have HWW := Lib.hid (words_of_owns how)
        obtain ⟨ws, hws⟩ : ∃ ws, allW M T N = ws := ⟨_, rfl⟩
        have HWS := Lib.hid hws
        rw [hws] at hlw hsm hnil hpn HWW
        have LD := Lib.hid (fun W (hW : WordsAt W (.slice va vn vc) ws) => load_all N _ ws (plW M T N) W hW (fun hh => by obtain ⟨rfl, rfl, rfl⟩ := hnil hh; rfl) hsm h16 (by omega) (by rw [hlw]; omega) (by rw [hlw, ← hws]; exact hchain) hpn)
        rw [hlw] at LD
        have HB4 := Lib.hid (HB3.out.trans (hbr.mono HB3.out.size))
        have x0 := (hbr.cell (p := ⟨w2.heap.size, 0, none⟩) hm3).trans (cellO HX3.out 0)
        have x1 := (hbr.cell (p := ⟨w2.heap.size, 1, none⟩) hm3).trans (cellO HX3.out 1)
        simp at x0 x1
        obtain ⟨wE, hwE⟩ : ∃ wE, wE = wr := ⟨_, rfl⟩
        rw [← hwE] at HWW HB4 HBR hzr x0 x1 ⊢
        have hml := Nat.lt_of_lt_of_le hm3 hzr
        have X0 := Lib.hid x0; have X1 := Lib.hid x1
        clear hg how hnil hbr hno hd e1 e3 hlw hsm hchain hpn hws hwE hrm x0 x1
        obtain ⟨ts, hts⟩ : ∃ ts, rs.map (turnM M T) = ts := ⟨_, rfl⟩
        have HTS := Lib.hid hts
        clear hts
        go_wp2_with fail
        go_loopg [11, 52] rs.length (fun gg s11 s52 wr => ∃ (j : Nat) (ua : Option Addr) (un uc : Nat), gg = rs.length - j ∧ j ≤ rs.length ∧ s52 = .int .i64 (j : Int) ∧ s11 = .slice ua un uc ∧ wr.ownsRow wE.heap.size 39 1 (.slice ua un uc) j (wordVals (ts.take j)) ∧ Below wE.heap.size wE wr)
        case atStart => exact ⟨0, none, 0, 0, rfl, by omega, rfl, rfl, World.ownsRow_nil _ _ _ _, Below.refl _ _⟩
        case round =>
          obtain ⟨j, ua, un, uc, hgj, hj, rfl, rfl, how, hbr⟩ := hrel
          have HGJ := Lib.hid hgj; have HOW := Lib.hid how; have HBF := Lib.hid hbr
          have hzf := hbr.size
          by_cases hlt : j < rs.length
          · obtain ⟨xa', xc', hue, -, -, hcu⟩ := ((HX.out.later HB4.out).later hbr).get
            simp only [Value.slice.injEq, true_and] at hue
            obtain ⟨rfl, rfl⟩ := hue
            obtain ⟨xb, xo, rfl, hxl, hxc⟩ := hcu j hlt
            have hxs := HRS.out _ (List.getElem_mem hlt)
            have HN := Lib.hid (show ts.take (j + 1) = ts.take j ++ [turnM M T rs[j]] by rw [List.take_succ_eq_append_getElem (show j < ts.length by rw [← HTS.out, List.length_map]; exact hlt)]; congr 2; simp only [← HTS.out, List.getElem_map])
            obtain ⟨x, hx⟩ : ∃ x, rs[j] = x := ⟨_, rfl⟩
            rw [hx] at hxc hxs HN
            have TX := Lib.hid (TU.out wr x hxs (HBR.out.trans (hbr.mono hzr)))
            obtain ⟨ty, hty⟩ : ∃ ty, turnM M T x = ty := ⟨_, rfl⟩
            rw [hty] at HN TX
            have x0 := (hbr.cell (p := ⟨w2.heap.size, 0, none⟩) hml).trans X0.out
            have x1 := (hbr.cell (p := ⟨w2.heap.size, 1, none⟩) hml).trans X1.out
            clear hgj how hbr hcu hx hty hxs
            go_wp2_with fail
            refine TX.out.mono ?_
            rintro e w6 ⟨rfl, hg6⟩
            have HB6 := Lib.hid (HBF.out.trans (hg6.mono hzf))
            have HO6 := Lib.hid (owns_later HOW.out hg6)
            have hz6 := HB6.out.size
            clear hg6 x0 x1 hxc
            go_wp2_with (at_builtin; refine wpList_append_own _ rfl _ _ 40 rfl wE.heap.size 39 i2 (.int .u64 0) 1 8 Tryz.underlying40 hi2 hc0 hc1 hc2 rfl (by decide) _ _ _ rfl (HO6.out.alloc _) ⟨w6.heap.size, 0, none⟩ 1 1 [.int .u64 (ty : Int)] rfl rfl ?c1 ?c2 ?c3 ?c4 ?c5 ?_)
            case c1 =>
              intro k u hk
              match k, hk with
              | 0, hk => simp at hk; subst hk; simp [Addr.add]
            case c2 => intro u hu; simp at hu; subst hu; rfl
            case c3 => unfold maxLen; omega
            case c4 => omega
            case c5 => simp; omega
            intro v' w7 hown' hgrow _
            obtain ⟨g7, c7, rfl, hg7, -⟩ := World.ownsRow.form hown' (by omega)
            have HO7 := Lib.hid (show w7.ownsRow wE.heap.size 39 1 (.slice (some ⟨g7, 0, none⟩) (j + 1) c7) (j + 1) (wordVals (ts.take (j + 1))) by
              rw [HN.out, show wordVals (ts.take j ++ [ty]) = wordVals (ts.take j) ++ [.int .u64 (ty : Int)] by simp [wordVals]]
              exact hown')
            have HB7 := Lib.hid ((HB6.out.alloc (by omega) _).grown hgrow (by simp; omega) (fun q hq => (HO6.out.lt q hq).1))
            clear hown' hgrow
            go_wp2_with fail
            go_roundg (rs.length - (j + 1))
            case measure => rw [HGJ.out]; omega
            case rel => exact ⟨j + 1, _, _, _, rfl, by omega, by go_num, rfl, HO7.out, HB7.out⟩
          · have hjl : j = rs.length := by omega
            have HOUT := Lib.hid (show wr.ownsRow wE.heap.size 39 1 (.slice ua un uc) rs.length (wordVals (rs.map (turnM M T))) by
              rw [HTS.out]
              rw [hjl, List.take_of_length_le (by rw [← HTS.out, List.length_map]; exact Nat.le_refl _)] at how; exact how)
            have HB5 := Lib.hid (HB4.out.trans (hbr.mono HB4.out.size))
            have HH5 := Lib.hid (HH.out.later HB5.out)
            have LDR := Lib.hid (LD.out wr (HWW.out.later hbr))
            have CE := Lib.hid (hcells_any B h N free S M wr HH5.out)
            have LA := Lib.hid (hlast_any B h N free S M wr HH5.out)
            have hz5 := HB5.out.size
            clear hgj how hbr hjl
            go_wp2_with fail
            all_goals try (exfalso; go_light; omega)
            refine CE.out.mono ?_
            rintro e w6 ⟨rfl, hw6⟩
            rw [hw6]
            clear hw6
            go_wp2_with fail
            refine LA.out.mono ?_
            rintro e w7 ⟨rfl, hw7⟩
            rw [hw7]
            clear hw7
            go_wp2_with fail
            refine LDR.out.mono ?_
            rintro e w8 ⟨h8, B8, rfl, hB8, hh8, hg8⟩
            have HB8 := Lib.hid (HB5.out.trans (hg8.mono hz5))
            have HO8 := Lib.hid (owns_later HOUT.out hg8)
            have hBh8 : B8 ≤ h8 := by obtain ⟨g, s, h1, -⟩ := hh8; exact h1
            obtain ⟨g9, s9, c0, c1, c2, c3, hl8, ⟨k0, k1, k2, k3, d0, d1, d2, d3⟩, hfz, hhl8, hBh, hmv⟩ := HeapAt.move (HH5.out.later hg8) hh8 (by omega) (by omega)
            have f0 := hfz 0
            have f1 := hfz 1
            have f2 := hfz 2
            have f3 := hfz 3
            have HMV := Lib.hid hmv
            clear hg8 hh8 hfz hmv
            have hzE := HB4.out.size
            go_wp2_with fail
            refine bodyPost_ret (v := .tuple #[.slice ua un uc, .int .i64 0]) (by simp [results, Tryz.results8, go_sem]) rfl ⟨_, 0, rfl, ?_, fun q hq hql => ?_, Or.inr ⟨rfl, T, HST.out, ?_, ?_⟩⟩
            · exact ((((HB8.out.mono hB).setCell (p := ⟨h, 0, none⟩) hBh _).setCell (p := ⟨h, 1, none⟩) hBh _).setCell (p := ⟨h, 2, none⟩) hBh _).setCell (p := ⟨h, 3, none⟩) hBh _
            · rw [Below.heap_setCell _ _ _ _ hq, Below.heap_setCell _ _ _ _ hq, Below.heap_setCell _ _ _ _ hq, Below.heap_setCell _ _ _ _ hq]
              exact HB8.out.block q hql
            · exact owns_mono (ownsRow_setCell_below (ownsRow_setCell_below (ownsRow_setCell_below (ownsRow_setCell_below HO8.out (by show h < _; omega) _) (by show h < _; omega) _) (by show h < _; omega) _) (by show h < _; omega) _) hzE
            · rw [HNS.out, show newM N M T = loadM ws by show loadM (allW M T N) = _; rw [HWS.out]]
              exact HMV.out
      · obtain ⟨d, rfl⟩ : ∃ d, a = n + d := ⟨a - n, by omega⟩
        obtain ⟨e1, -, e3, -⟩ := skip_all (M := M) (T := T) (n := n) (d := d) (fun j h1 h2 => hno j (by omega) h2)
        rw [← e1, ← e3] at how
        obtain ⟨a, haa⟩ : ∃ a, a = n + d := ⟨_, rfl⟩
        rw [← haa] at how haN hTa ⊢
        have HAN := Lib.hid haa
        have hS := HST.out.sub hTa
        have ha2 := (HC.out.lt hS).2
        have hlen := objW_len M T a
        have hks := ksum_obj (M := M) haN hTa
        have hrm := HST.out.room HC.out
        have AK := Lib.hid (show allW M T (a + 1) = allW M T a ++ objW M T a by show allW M T a ++ (if T a = true then _ else _) = _; rw [if_pos hTa])
        have SK := Lib.hid (show ksum M T (a + 1) = ksum M T a + (2 + cz M a) by show ksum M T a + (if T a = true then _ else _) = _; rw [if_pos hTa])
        have WA := Lib.hid (WT.out wr a hbr hTa)
        have PT := Lib.hid (fun W => ptr_yes (a : Int) (by omega) (by omega) W)
        have HOW := Lib.hid how
        have x0 := (hbr.cell (p := ⟨w2.heap.size, 0, none⟩) hm3).trans (cellO HX3.out 0)
        have x1 := (hbr.cell (p := ⟨w2.heap.size, 1, none⟩) hm3).trans (cellO HX3.out 1)
        simp at x0 x1
        obtain ⟨q, hq⟩ : ∃ q, 2 + cz M a = q := ⟨_, rfl⟩
        rw [hq] at hlen SK
        obtain ⟨ks, hk⟩ : ∃ ks, ksum M T a = ks := ⟨_, rfl⟩
        rw [hk] at HOW SK hks
        obtain ⟨ow, how2⟩ : ∃ ow, objW M T a = ow := ⟨_, rfl⟩
        rw [how2] at hlen WA AK
        have hsum : ks + ow.length ≤ 10000 := by omega
        have HLEN := Lib.hid hlen
        have hq2 : 2 ≤ q := by omega
        clear hg how hnil hbr hno hna e1 e3 haa hS hq hk how2 hks hrm hlen
        go_wp2_with fail
        refine (PT.out _).mono ?_
        rintro e w5 ⟨rfl, hw5⟩
        rw [← hw5]
        clear hw5
        go_wp2_with fail
        refine WA.out.mono ?_
        rintro e w6 ⟨v6, rfl, ho6, hg6⟩
        obtain ⟨v6a, v6c, rfl, -⟩ := ho6.get
        have HB6 := Lib.hid (HBR.out.trans (hg6.mono hzr))
        have HO6 := Lib.hid (owns_later HOW.out hg6)
        have W6 := Lib.hid ho6
        have hz6 := HB6.out.size
        clear ho6 hg6 x0 x1
        go_wp2_with (at_builtin; refine wpList_append_words rfl _ _ 40 rfl w3.heap.size 39 i2 Tryz.underlying40 hi2 hc0 hc1 hc2 _ _ _ rfl HO6.out _ ow rfl W6.out ?c1 ?c2 ?_)
        case c1 => exact hsum
        case c2 => exact hz6
        intro v7 w7 ho7 hgr7
        obtain ⟨v7a, v7n, v7c, rfl⟩ := owns_slice ho7
        have HB7 := Lib.hid (HB6.out.grown hgr7 hz6 (fun q hq => (HO6.out.lt q hq).1))
        have HO7 := Lib.hid (show w7.ownsRow w3.heap.size 39 1 (.slice v7a v7n v7c) (ksum M T (a + 1)) (wordVals (allW M T (a + 1))) by
          rw [SK.out, AK.out, ← HLEN.out, show wordVals (allW M T a ++ ow) = wordVals (allW M T a) ++ wordVals ow by simp [wordVals]]
          exact ho7)
        have N7 := Lib.hid (NX.out w7 ((a : Int) + 1) HB7.out)
        clear ho7 hgr7
        go_wp2_with fail
        refine N7.out.mono ?_
        rintro e w8 ⟨r', rfl, hr', hw8⟩
        rw [hw8]
        clear hw8
        have HR' := Lib.hid hr'
        clear hr' N7
        go_wp2_with fail
        go_roundg (N + 1 - (a + 1))
        case measure => rw [HGG.out]; have := HAN.out; omega
        case rel => exact ⟨a + 1, r', _, _, _, rfl, by omega, rfl, HR'.out, rfl, HO7.out, fun hh => by (have h1 := congrArg List.length hh; rw [AK.out, List.length_append, List.length_nil] at h1; have h2 := HLEN.out; omega), HB7.out⟩
end Go.Proofs.YtibopjjicfiimaaGreatDoor
namespace Go.Proofs.YtibopjjicfiimaaGreatDoor
open Go.RowKit
set_option linter.unusedVariables false
abbrev newS (N : Nat) (M : Nat → Nat) (T : Nat → Bool) : Nat → Bool := setAll N (fun _ => false) (plW M T N)
section
variable {N : Nat} {S T : Nat → Bool} {M : Nat → Nat} {R : List Nat}
theorem npl_fit (c : CollOK N S M) (h : Stay S M R T) {a : Nat} (ha : T a = true) : npl M T a + 2 + cz M a ≤ N ∧ npl M T a + 2 + cz M a ≤ 2 + ksum M T N ∧ 2 ≤ npl M T a ∧ npl M T a < 16777216 := by
  have h1 := ksum_obj (M := M) (c.lt (h.sub ha)).1 ha
  have h2 := h.room c
  have h3 := c.most
  unfold npl; omega
theorem newS_iff (c : CollOK N S M) (h : Stay S M R T) {x : Nat} : newS N M T x = true ↔ ∃ a, T a = true ∧ x = npl M T a := by
  have hlt : ∀ y ∈ plW M T N, y < N := fun y hy => by
    obtain ⟨a, -, h2, rfl⟩ := plW_mem.1 hy
    have := (npl_fit c h h2).1
    unfold npl at this; omega
  unfold newS
  rw [setAll_iff N _ _ _ hlt, plW_mem]
  constructor
  · rintro (⟨a, -, h2, h3⟩ | h2)
    · exact ⟨a, h2, h3⟩
    · cases h2
  · rintro ⟨a, h2, h3⟩
    exact Or.inl ⟨a, (c.lt (h.sub h2)).1, h2, h3⟩
theorem new_size (c : CollOK N S M) (h : Stay S M R T) {a : Nat} (ha : T a = true) : hS (newM N M T (npl M T a + 1)) = hS (M (a + 1)) := by
  rw [new_head c h ha]
theorem new_goodH (c : CollOK N S M) (h : Stay S M R T) : GoodH N (newS N M T) (newM N M T) := by
  intro x hx
  obtain ⟨a, ha, rfl⟩ := (newS_iff c h).1 hx
  obtain ⟨f1, -, f2, -⟩ := npl_fit c h ha
  refine ⟨⟨by omega, by omega, hx, new_un c h ha⟩, fun hk => ?_⟩
  rw [new_size c h ha]
  rw [new_head c h ha] at hk
  obtain ⟨-, -, u, -⟩ := c.obj a (h.sub ha)
  have hz := cz4 u (c.small _)
  rw [if_neg hk] at hz
  omega
theorem new_wordsA (c : CollOK N S M) (h : Stay S M R T) {a : Nat} (ha : T a = true) : wordsA (newM N M T) (npl M T a) = (wordsA M a).map (turnM M T) := by
  obtain ⟨-, -, u, -⟩ := c.obj a (h.sub ha)
  have hz := cz4 u (c.small _)
  unfold wordsA
  rw [new_cls c h ha, new_head c h ha, List.map_cons]
  by_cases hk : hK (M (a + 1)) = 2
  · rw [if_pos hk, if_pos hk]; rfl
  · rw [if_neg hk, if_neg hk, List.map_map]
    rw [if_neg hk] at hz
    congr 1
    apply List.map_congr_left
    intro i hi
    have hi3 := List.mem_range.1 hi
    have := new_word c h ha (i := i) (by omega)
    rw [if_neg hk] at this
    exact this
/-- what a word that is led to becomes -/
theorem turn_in (c : CollOK N S M) (h : Stay S M R T) {x : Nat} (hx : Wd S M R x) : (x = 0 ∧ turnM M T x = 0) ∨ (x % 2 = 1 ∧ turnM M T x = x) ∨ ∃ a, x = a * 2 ∧ T a = true ∧ turnM M T x = npl M T a * 2 := by
  by_cases h0 : x = 0
  · subst h0; exact Or.inl ⟨rfl, turn_zero M T⟩
  · by_cases h1 : x % 2 = 1
    · exact Or.inr (Or.inl ⟨h1, turn_odd M T h1⟩)
    · have hobj : x / 2 < 16777216 ∧ S (x / 2) = true := Classical.byContradiction fun hh => h.good ⟨x, hx, h0, by omega, hh⟩
      obtain ⟨a, rfl⟩ : ∃ a, x = a * 2 := ⟨x / 2, by omega⟩
      rw [show a * 2 / 2 = a by omega] at hobj
      have hT : T a = true := (h.iff a).2 ⟨hx, hobj.2⟩
      exact Or.inr (Or.inr ⟨a, rfl, hT, turn_obj (by omega) hobj.1 hT⟩)
theorem new_wd (c : CollOK N S M) (h : Stay S M R T) {x : Nat} (hx : Wd S M R x) : Wd (newS N M T) (newM N M T) (R.map (turnM M T)) (turnM M T x) := by
  induction hx with
  | root hx => exact Wd.root (List.mem_map_of_mem hx)
  | @step a y hw hs hy ih =>
    have hT : T a = true := (h.iff a).2 ⟨hw, hs⟩
    rw [turn_obj (by have := (c.lt hs).2.2; omega) (c.lt hs).2.1 hT] at ih
    exact Wd.step ih ((newS_iff c h).2 ⟨a, hT, rfl⟩) (by rw [new_wordsA c h hT]; exact List.mem_map_of_mem hy)
theorem new_wd_back (c : CollOK N S M) (h : Stay S M R T) {y : Nat} (hy : Wd (newS N M T) (newM N M T) (R.map (turnM M T)) y) : ∃ x, Wd S M R x ∧ y = turnM M T x := by
  induction hy with
  | root hy =>
    obtain ⟨x, hx, rfl⟩ := List.mem_map.1 hy
    exact ⟨x, Wd.root hx, rfl⟩
  | @step b y hw hs hy ih =>
    obtain ⟨x, hx, hbx⟩ := ih
    obtain ⟨d, hd, hdb⟩ := (newS_iff c h).1 hs
    have hb2 := (npl_fit c h hd).2.2.1
    rcases turn_in c h hx with ⟨-, h1⟩ | ⟨h0, h1⟩ | ⟨a, rfl, hT, h1⟩
    · omega
    · omega
    · have hba : b = npl M T a := by omega
      rw [hba, new_wordsA c h hT] at hy
      obtain ⟨z, hz, rfl⟩ := List.mem_map.1 hy
      exact ⟨z, Wd.step hx (h.sub hT) hz, rfl⟩
/-- behind it all is led to, and nothing is loose -/
theorem new_stay (c : CollOK N S M) (h : Stay S M R T) : Stay (newS N M T) (newM N M T) (R.map (turnM M T)) (newS N M T) := by
  refine ⟨fun x => ⟨fun hx => ⟨?_, hx⟩, fun hx => hx.2⟩, ?_⟩
  · obtain ⟨a, ha, rfl⟩ := (newS_iff c h).1 hx
    have := new_wd c h ((h.iff a).1 ha).1
    rw [turn_obj (by have := (c.lt (h.sub ha)).2.2; omega) (c.lt (h.sub ha)).2.1 ha] at this
    exact this
  · rintro ⟨y, hy, y0, y1, y2⟩
    obtain ⟨x, hx, rfl⟩ := new_wd_back c h hy
    rcases turn_in c h hx with ⟨-, h1⟩ | ⟨h0, h1⟩ | ⟨a, rfl, hT, h1⟩
    · exact y0 h1
    · rw [h1] at y1; omega
    · rw [h1, show npl M T a * 2 / 2 = npl M T a by omega] at y2
      exact y2 ⟨(npl_fit c h hT).2.2.2, (newS_iff c h).2 ⟨a, hT, rfl⟩⟩
theorem setAll_snoc (N : Nat) : ∀ (l : List Nat) (S : Nat → Bool) (x : Nat), setAll N S (l ++ [x]) = setS N (setAll N S l) (x : Int) true
  | [], _, _ => rfl
  | y :: l, S, x => setAll_snoc N l _ x
theorem new_counts (c : CollOK N S M) (h : Stay S M R T) : cnt (newS N M T) N = cnt T N ∧ ksum (newM N M T) (newS N M T) N = ksum M T N := by
  have key : ∀ n, n ≤ N → cnt (setAll N (fun _ => false) (plW M T n)) N = cnt T n ∧ ksum (newM N M T) (setAll N (fun _ => false) (plW M T n)) N = ksum M T n := by
    intro n
    induction n with
    | zero =>
      intro _
      have hz : ∀ m, ksum (newM N M T) (fun _ => false) m = 0 := fun m => by
        induction m with
        | zero => rfl
        | succ m ih => unfold ksum; rw [ih]; rfl
      have hc : ∀ m, cnt (fun _ => false) m = 0 := fun m => by
        induction m with
        | zero => rfl
        | succ m ih => unfold cnt; rw [ih]; rfl
      exact ⟨hc N, hz N⟩
    | succ n ih =>
      intro hn
      obtain ⟨i1, i2⟩ := ih (by omega)
      by_cases hT : T n = true
      · have hp : plW M T (n + 1) = plW M T n ++ [npl M T n] := by show plW M T n ++ (if T n = true then _ else _) = _; rw [if_pos hT]; rfl
        obtain ⟨f1, -, -, -⟩ := npl_fit c h hT
        have hlt : ∀ y ∈ plW M T n, y < N := fun y hy => by
          obtain ⟨a, -, h2, rfl⟩ := plW_mem.1 hy
          have := (npl_fit c h h2).1
          unfold npl at this; omega
        have hno : setAll N (fun _ => false) (plW M T n) (npl M T n) = false := by
          cases hq : setAll N (fun _ => false) (plW M T n) (npl M T n) with
          | false => rfl
          | true =>
            rcases (setAll_iff N _ _ _ hlt).1 hq with hm | hm
            · obtain ⟨a, h1, h2, h3⟩ := plW_mem.1 hm
              have := ksum_inj (M := M) hT h2 (by unfold npl at h3; omega)
              omega
            · cases hm
        rw [hp, setAll_snoc, cntset N _ _ (by omega) hno, ksum_set N _ _ _ _ (by omega) hno, if_pos (by omega), i1, i2, new_cz c h hT]
        constructor
        · show cnt T n + 1 = cnt T n + (T n).toNat; rw [hT]; rfl
        · show ksum M T n + (2 + cz M n) = ksum M T n + (if T n = true then _ else _); rw [if_pos hT]
      · have hp : plW M T (n + 1) = plW M T n := by show plW M T n ++ (if T n = true then _ else _) = _; rw [if_neg hT, List.append_nil]
        rw [hp, i1, i2]
        constructor
        · show cnt T n = cnt T n + (T n).toNat; rw [show T n = false by simpa using hT]; rfl
        · show ksum M T n = ksum M T n + (if T n = true then _ else _); rw [if_neg hT]; rfl
  exact key N (Nat.le_refl _)
theorem new_closed (c : CollOK N S M) (h : Stay S M R T) : ClosedP (newS N M T) (newM N M T) := by
  have hp : ∀ a, T a = true → PtrIn (newS N M T) (npl M T a * 2) = true := fun a ha => by
    obtain ⟨-, -, f3, f4⟩ := npl_fit c h ha
    unfold PtrIn
    rw [decide_eq_true (by omega), Bool.true_and, show npl M T a * 2 / 2 = npl M T a by omega]
    exact (newS_iff c h).2 ⟨a, ha, rfl⟩
  intro x hx
  obtain ⟨a, ha, rfl⟩ := (newS_iff c h).1 hx
  have hwa := ((h.iff a).1 ha).1
  obtain ⟨-, -, u, -⟩ := c.obj a (h.sub ha)
  have hz := cz4 u (c.small _)
  obtain ⟨u1, u2, -⟩ := u
  refine ⟨?_, fun hk i hi => ?_⟩
  · rw [new_cls c h ha]
    have hwd : Wd S M R (M a) := Wd.step hwa (h.sub ha) (List.mem_cons_self)
    rcases turn_in c h hwd with ⟨h0, -⟩ | ⟨h0, -⟩ | ⟨b, -, hb, h1⟩
    · omega
    · omega
    · rw [h1]; exact hp b hb
  · rw [new_size c h ha] at hi
    rw [new_head c h ha] at hk
    rw [if_neg hk] at hz
    have hw := new_word c h ha (i := i) (by omega)
    rw [if_neg hk] at hw
    rw [hw]
    have hmem : M (a + 2 + i) ∈ wordsA M a := by
      unfold wordsA
      rw [if_neg hk]
      exact List.mem_cons_of_mem _ (List.mem_map.2 ⟨i, List.mem_range.2 (by omega), rfl⟩)
    have hwd : Wd S M R (M (a + 2 + i)) := Wd.step hwa (h.sub ha) hmem
    unfold WordIn
    rcases turn_in c h hwd with ⟨-, h1⟩ | ⟨h0, h1⟩ | ⟨b, -, hb, h1⟩
    · rw [h1]; rfl
    · rw [h1, decide_eq_true h0]; simp
    · rw [h1, hp b hb]; simp
end
end Go.Proofs.YtibopjjicfiimaaGreatDoor
namespace Go.Proofs.YtibopjjicfiimaaGreatDoor
open Go.RowKit
set_option linter.unusedVariables false
theorem usedL_loadM (ws : List Nat) : usedL (loadM ws) (2 + ws.length) = ws := by
  apply List.ext_getElem
  · rw [usedL_len]; omega
  · intro i h1 h2
    rw [usedL_len] at h1
    simp only [usedL, List.getElem_map, List.getElem_range]
    unfold loadM
    rw [if_pos ⟨by omega, by omega⟩, show 2 + i - 2 = i by omega, List.getD_eq_getElem?_getD, List.getElem?_eq_getElem h2]
    rfl
section
variable {N : Nat} {S T : Nat → Bool} {M : Nat → Nat} {R : List Nat}
theorem newS_low (c : CollOK N S M) (h : Stay S M R T) {x : Nat} (hx : newS N M T x = true) : 2 ≤ x ∧ x + 2 ≤ 2 + ksum M T N := by
  obtain ⟨a, ha, rfl⟩ := (newS_iff c h).1 hx
  have := npl_fit c h ha
  omega
theorem newS_any (c : CollOK N S M) (h : Stay S M R T) {N2 : Nat} (hN : 2 + ksum M T N ≤ N2) : setAll N2 (fun _ => false) (plW M T N) = newS N M T := by
  have hlt : ∀ y ∈ plW M T N, y < N2 := fun y hy => by
    obtain ⟨a, -, h2, rfl⟩ := plW_mem.1 hy
    have := (npl_fit c h h2).2.1
    unfold npl at this; omega
  funext x
  have h1 := setAll_iff N2 (plW M T N) (fun _ => false) x hlt
  have h2 : newS N M T x = true ↔ x ∈ plW M T N ∨ (fun _ => false) x = true := by
    rw [newS_iff c h, plW_mem]
    constructor
    · rintro ⟨a, ha, rfl⟩; exact Or.inl ⟨a, (c.lt (h.sub ha)).1, ha, rfl⟩
    · rintro (⟨a, -, ha, rfl⟩ | hf)
      · exact ⟨a, ha, rfl⟩
      · cases hf
  exact Bool.eq_iff_iff.2 (h1.trans h2.symm)
theorem new_goodN (c : CollOK N S M) (h : Stay S M R T) {N2 : Nat} (hN : 2 + ksum M T N ≤ N2) : GoodH N2 (newS N M T) (newM N M T) := by
  intro x hx
  obtain ⟨a, ha, rfl⟩ := (newS_iff c h).1 hx
  obtain ⟨-, f1, f2, -⟩ := npl_fit c h ha
  refine ⟨⟨by omega, by omega, hx, new_un c h ha⟩, fun hk => ?_⟩
  rw [new_size c h ha]
  rw [new_head c h ha] at hk
  obtain ⟨-, -, u, -⟩ := c.obj a (h.sub ha)
  have hz := cz4 u (c.small _)
  rw [if_neg hk] at hz
  omega
theorem cnt_any (c : CollOK N S M) (h : Stay S M R T) {N2 : Nat} (hN : 2 + ksum M T N ≤ N2) : cnt (newS N M T) N2 = cnt T N := by
  have hr := h.room c
  have key : ∀ n, 2 + ksum M T N ≤ n → cnt (newS N M T) n = cnt (newS N M T) (2 + ksum M T N) := fun n hn => by
    obtain ⟨d, rfl⟩ : ∃ d, n = 2 + ksum M T N + d := ⟨n - (2 + ksum M T N), by omega⟩
    exact (skip_all (M := M) (T := newS N M T) (n := 2 + ksum M T N) (d := d) (fun j h1 _ => by
      cases hj : newS N M T j with
      | false => rfl
      | true => have := newS_low c h hj; omega)).2.2.2
  rw [key N2 hN, ← key N hr]
  exact (new_counts c h).1
theorem ksum_any (c : CollOK N S M) (h : Stay S M R T) {N2 : Nat} (hN : 2 + ksum M T N ≤ N2) : ksum (newM N M T) (newS N M T) N2 = ksum M T N := by
  have hr := h.room c
  have key : ∀ n, 2 + ksum M T N ≤ n → ksum (newM N M T) (newS N M T) n = ksum (newM N M T) (newS N M T) (2 + ksum M T N) := fun n hn => by
    obtain ⟨d, rfl⟩ : ∃ d, n = 2 + ksum M T N + d := ⟨n - (2 + ksum M T N), by omega⟩
    exact (skip_all (M := newM N M T) (T := newS N M T) (n := 2 + ksum M T N) (d := d) (fun j h1 _ => by
      cases hj : newS N M T j with
      | false => rfl
      | true => have := newS_low c h hj; omega)).2.2.1
  rw [key N2 hN, ← key N hr]
  exact (new_counts c h).2
theorem Stay.unique {T2 : Nat → Bool} (h : Stay S M R T) (h2 : Stay S M R T2) : T2 = T := by
  funext a
  exact Bool.eq_iff_iff.2 ((h2.iff a).trans (h.iff a).symm)
end
theorem cnt_pos {T : Nat → Bool} : ∀ {N : Nat}, 0 < cnt T N → ∃ a, T a = true
  | N + 1, h => by
    cases hT : T N with
    | true => exact ⟨N, hT⟩
    | false =>
      have h1 : cnt T (N + 1) = cnt T N + (T N).toNat := rfl
      rw [hT] at h1
      exact cnt_pos (N := N) (by rw [h1] at h; exact h)
/-- one word alone leads on only if it is an object's -/
theorem root_obj {S T : Nat → Bool} {M : Nat → Nat} {r : Nat} (h : Stay S M [r] T) (hT : ∃ a, T a = true) : ∃ a, r = a * 2 ∧ T a = true := by
  by_cases hr : ∃ a, S a = true ∧ r = a * 2
  · obtain ⟨a, hS, rfl⟩ := hr
    exact ⟨a, rfl, (h.iff a).2 ⟨Wd.root (List.mem_cons_self), hS⟩⟩
  · exfalso
    obtain ⟨d, hd⟩ := hT
    have hw : ∀ x, Wd S M [r] x → x = r := fun x hx => by
      induction hx with
      | root hx => simpa using hx
      | @step a y _ hs _ ih => exact absurd ⟨a, hs, ih.symm⟩ hr
    exact hr ⟨d, ((h.iff d).1 hd).2, (hw _ ((h.iff d).1 hd).1).symm⟩
/-- all that a walk wants of memory behind a collection from one word -/
theorem collected {N r : Nat} {S T : Nat → Bool} {M : Nat → Nat} (c : CollOK N S M) (h : Stay S M [r] T) (hT : 0 < cnt T N) :
    ∃ (S2 : Nat → Bool) (M2 : Nat → Nat) (ws pl : List Nat) (P m : Nat), newS N M T = S2 ∧ newM N M T = M2 ∧ ksum M T N = m ∧ [r].map (turnM M T) = [P * 2] ∧ 2 + m ≤ N ∧ 2 ≤ m ∧ 2 ≤ P ∧ P < 16777216 ∧ S2 P = true ∧ S2 0 = false ∧
      ClosedP S2 M2 ∧ SmallW ws ∧ M2 = loadM ws ∧ usedL M2 (2 + m) = ws ∧ Chain4 (loadM ws) (2 + m) 2 pl ∧ Stay S2 M2 [P * 2] S2 ∧
      ∀ N2, 2 + m ≤ N2 → GoodH N2 S2 M2 ∧ setAll N2 (fun _ => false) pl = S2 ∧ cnt S2 N2 = cnt T N := by
  obtain ⟨a, rfl, hTa⟩ := root_obj h (cnt_pos hT)
  obtain ⟨-, q2, q3, q4⟩ := npl_fit c h hTa
  have e1 : [a * 2].map (turnM M T) = [npl M T a * 2] := by
    rw [List.map_singleton, turn_obj (by have := (c.lt (h.sub hTa)).2.2; omega) (c.lt (h.sub hTa)).2.1 hTa]
  have h1 : newS N M T (npl M T a) = true := (newS_iff c h).2 ⟨a, hTa, rfl⟩
  have h2 : newS N M T 0 = false := by
    cases h0 : newS N M T 0 with
    | false => rfl
    | true => have := newS_low c h h0; omega
  have h3 : usedL (newM N M T) (2 + ksum M T N) = allW M T N := by
    have := usedL_loadM (allW M T N)
    rw [allW_len] at this; exact this
  have h4 := new_stay c h
  rw [e1] at h4
  exact ⟨_, _, allW M T N, plW M T N, npl M T a, _, rfl, rfl, rfl, e1, h.room c, by omega, q3, q4, h1, h2, new_closed c h, new_small c h, rfl, h3, new_chain c h, h4, fun N2 hN => ⟨new_goodN c h hN, newS_any c h hN, cnt_any c h hN⟩⟩
set_option maxRecDepth 100000 in
theorem decode_least (v : Value) (L : List UInt8) (w : World) (hv : BytesAt w v L) :
    Calls Tryz.prog 10 #[v, .int .i64 15] w fun e w' => e = .returned (.tuple #[.pointer none, .int .u64 0, .int .i64 2]) ∧ Below w.heap.size w w' := by
  have NW := Lib.hid (new_no 15 (by omega) w)
  obtain ⟨a, cap, rfl, l1, l2, -⟩ := hv
  go_enter Tryz.func10, Tryz.ntmps10
  go_wp2_with fail
  refine NW.out.mono ?_
  rintro e w1 ⟨rfl, hw⟩
  rw [hw]
  clear hw
  go_wp2_with fail
  exact bodyPost_ret (v := .tuple #[.pointer none, .int .u64 0, .int .i64 2]) (by simp [results, Tryz.results10, go_sem]) rfl ⟨rfl, Below.refl _ _⟩
theorem words_one' (w : World) (x : Nat) (t : TypeId) : WordsAt (w.alloc (.cells #[.int .u64 (x : Int)] t)) (.slice (some ⟨w.heap.size, 0, none⟩) 1 1) [x] :=
  ⟨_, 1, rfl, Nat.le_refl _, by unfold maxLen; omega, Or.inr ⟨w.heap.size, 0, rfl, fun j hj => by
    match j, hj with
    | 0, _ => exact (cellO (heap_alloc_new w _) 0).trans rfl⟩, fun h => by cases h⟩
end Go.Proofs.YtibopjjicfiimaaGreatDoor
