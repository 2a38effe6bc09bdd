/- The checker runs. -/
import Derived.Test.YtnajgpefmknmpaaDoorChkP
import Derived.Laws.AppendOwnNone
namespace Go.Proofs.YtnajgpefmknmpaaDoor
open Go.RowKit Go.Maps
set_option linter.unusedVariables false
theorem runG_nil (l : List UInt8) (f : Nat) (c : Ck) : runG l f c [] = c := by cases f <;> rfl
theorem runG_err {l : List UInt8} {f : Nat} {c : Ck} {ws : List Gl} (h : c.e ≠ 0) : runG l f c ws = c := by
  cases f with
  | zero => rfl
  | succ f =>
    unfold runG
    split
    · rfl
    · rw [if_pos h]
theorem runG_step {l : List UInt8} {f : Nat} {c : Ck} {ws : List Gl} {g : Gl} (h : c.e = 0) : runG l (f + 1) c (ws ++ [g]) = runG l f (runStep l c ws g).1 (runStep l c ws g).2 := by
  conv => lhs; unfold runG
  rw [List.getLast?_append]
  simp only [List.getLast?_singleton, Option.some_or]
  rw [if_neg (by simp [h]), List.dropLast_concat]
theorem run_out {l : List UInt8} {c : Ck} {ws : List Gl} {g : Gl} (h : c.of_ g.at_ ≠ some g.part) : runStep l c ws g = ({ c with e := wrongE c.e 3 }, ws) := by
  unfold runStep; rw [if_neg h]
theorem run_met {l : List UInt8} {c : Ck} {ws : List Gl} {g : Gl} {d : Int} (h : c.of_ g.at_ = some g.part) (hd : c.depth g.at_ = some d) : runStep l c ws g = if d ≠ g.deep then ({ c with e := wrongE c.e 3 }, ws) else (c, ws) := by
  unfold runStep; rw [if_pos h, hd]
theorem run_new {l : List UInt8} {c : Ck} {ws : List Gl} {g : Gl} (h : c.of_ g.at_ = some g.part) (hd : c.depth g.at_ = none) : runStep l c ws g = ((stepM l { c with depth := upd c.depth g.at_ g.deep } g.at_).1, ws ++ (stepM l { c with depth := upd c.depth g.at_ g.deep } g.at_).2) := by
  unfold runStep; rw [if_pos h, hd]
theorem own_pop {w : World} {B g m cap : Nat} {ws : List Gl} {x : Gl} (h : OwnsG w B (.slice (some ⟨g, 0, none⟩) (m + 1) cap) (ws ++ [x])) (hm : ws.length = m) : OwnsG w B (.slice (some ⟨g, 0, none⟩) m cap) ws := by
  rcases h.2 with ⟨hv, -⟩ | ⟨g', cap', cur, hv, hB, hg, hn, hcm, hs, ht⟩
  · cases hv
  · injection hv with h1 h2 h3
    injection h1 with h1
    injection h1 with h1
    subst h1 h3 hm
    have hl := glsC_length ws
    refine ⟨hl, .inr ⟨g, cap, cur, rfl, hB, hg, by rw [List.length_append] at hn; simp at hn; omega, hcm, hs, ?_⟩⟩
    have e : glsC (ws ++ [x]) = glsC ws ++ glC x := by unfold glsC; rw [List.flatMap_append]; simp
    rw [e, List.length_append, List.length_singleton] at ht
    have h2 : (glsC ws ++ glC x).take (ws.length * 3) = glsC ws := by rw [← hl]; exact List.take_left
    have := congrArg (List.take (ws.length * 3)) ht
    rw [h2, List.take_take, Nat.min_eq_left (by omega)] at this
    exact this
theorem addr_add (g j : Nat) : (⟨g, 0, none⟩ : Addr).add j = ⟨g, j, none⟩ := by unfold Addr.add; split <;> simp_all
theorem sizeGoal (W : World) : (sizeOf (Tryd.prog.elem 98)).run Tryd.prog W = .ok 3 W := by kernel_rfl
theorem slice_pop (g m cap : Nat) (hc : m + 1 ≤ cap) (W : World) : (Instr.slice 98 (.slice (some ⟨g, 0, none⟩) (m + 1) cap) none (some (.int .i64 (m : Int))) none).run Tryd.prog W = .ok (.slice (some ⟨g, 0, none⟩) m cap) W := by
  have := run_slice_h (P := Tryd.prog) (w := W) 98 (some ⟨g, 0, none⟩) (m + 1) cap (by kernel_rfl) .i64 (m : Int) (by omega) (by omega)
  rw [this, sizeGoal]
  simp only [Result.andThen, Int.toNat_natCast, sliced]
  rw [if_neg (by omega)]
  simp [Addr.add]
def RunPost (l : List UInt8) (B : Nat) (q : Pl) (v pv : Value) (W : Wd) (c : Ck) (F N : Nat) (w : World) (e : Ending) (w' : World) : Prop :=
  e = .returned (.tuple #[]) ∧ CkAt w' B q v W (runM l F c) pv (N + F) ∧ Below B w w'
set_option maxRecDepth 100000 in
set_option maxHeartbeats 4000000 in
theorem run_any (l : List UInt8) (B : Nat) (q : Pl) (v pv : Value) (W : Wd) (c : Ck) (F N : Nat) (w : World) (hv : BytesAt w v l) (hl : l.length ≤ 2000) (H : CkAt w B q v W c pv N) (I : Inv l c 65536) (hpl : c.parts.length ≤ 100000) (hN : N ≤ 10000000)
    (hF : F = 4 * l.length + 4) (hbv : l ≠ [] → ∀ b o len cap, v = .slice (some ⟨b, o, none⟩) len cap → b < B) :
    Calls Tryd.prog 31 #[.pointer (some ⟨q.h, 0, none⟩)] w (RunPost l B q v pv W c F N w) := by
  obtain ⟨i3, gi, gz0, gz1, gz2⟩ := info_parts goalInfo
  have HM := Lib.hid (show runM l F c = if (runG l F c [⟨0, 0, 0⟩]).e = 0 ∧ 200 < (runG l F c [⟨0, 0, 0⟩]).most then { runG l F c [⟨0, 0, 0⟩] with e := 2 } else runG l F c [⟨0, 0, 0⟩] from rfl)
  have hBw : B ≤ w.heap.size := Nat.le_of_lt (Nat.lt_of_le_of_lt H.bh H.lt)
  have g1 : Below w.heap.size w (w.alloc (.cells #[.int .i64 0, .int .i64 0, .int .i64 0] 97)) := (Below.refl _ _).alloc (Nat.le_refl _) _
  have o1 : OwnsG (w.alloc (.cells #[.int .i64 0, .int .i64 0, .int .i64 0] 97)) w.heap.size (.slice (some ⟨w.heap.size, 0, none⟩) 1 1) [⟨0, 0, 0⟩] :=
    ⟨rfl, .inr ⟨w.heap.size, 1, #[.int .i64 0, .int .i64 0, .int .i64 0], rfl, Nat.le_refl _, heap_alloc_new w _, Nat.le_refl _, by unfold maxLen; omega, rfl, rfl⟩⟩
  have H1 := Lib.hid (H.later g1)
  have HV := Lib.hid hv; have HBV := Lib.hid hbv; have HI := Lib.hid I
  have hu := unmet_le l c.depth
  have hF8 : F ≤ 8004 := by omega
  have hFI : (F : Int) ≤ 8004 := by omega
  clear hv hbv I H
  go_enter Tryd.func31, Tryd.ntmps31
  go_wp2_with fail
  generalize w.alloc (.cells #[.int .i64 0, .int .i64 0, .int .i64 0] 97) = w1 at *
  have HO1 := Lib.hid o1; have G1 := Lib.hid g1
  have hw1 := g1.size
  clear o1 g1
  generalize hbw : w.heap.size = bw at *
  have HBW := Lib.hid hbw; clear hbw
  generalize hR : runG l F c [⟨0, 0, 0⟩] = R at *
  have HR := Lib.hid hR; clear hR
  go_loopg [2] F (fun gg s2 wr => ∃ (f : Nat) (c' : Ck) (ws : List Gl) (M : Nat), gg = f ∧ runG l f c' ws = R ∧ 4 * unmet l c'.depth + ws.length ≤ f ∧ f ≤ F ∧ CkAt wr B q v W c' pv M ∧ M + f ≤ N + F ∧ OwnsG wr bw s2 ws ∧ Inv l c' (65536 + 100002 * ((F : Int) - f)) ∧ (∀ g ∈ ws, GlOk (65536 + 100002 * ((F : Int) - f)) g) ∧ c'.parts = c.parts ∧ Below B w1 wr)
  case atStart => exact ⟨F, c, _, N, rfl, HR.out, by simp; omega, Nat.le_refl _, H1.out, Nat.le_refl _, HO1.out, by rw [Int.sub_self]; exact HI.out, (fun g hg => by rw [List.mem_singleton] at hg; subst hg; unfold GlOk; simp only; omega), rfl, Below.refl _ _⟩
  case round =>
    obtain ⟨f, c', ws, M, hgf, hrun, hpot, hfF, hC, hM, hO, hI, hG, hpp, hB⟩ := hrel
    have HGF := Lib.hid hgf; have HRUN := Lib.hid hrun; have HC := Lib.hid hC; have HO := Lib.hid hO; have HIV := Lib.hid hI; have HG := Lib.hid hG; have HPP := Lib.hid hpp; have HB := Lib.hid hB
    have hhr := hC.lt
    have hs := hB.size
    have c9 : wr.cell? ⟨q.h, 9, none⟩ = some (.int .i64 c'.e) := cell_of_row wr _ 9 _ _ _ hC.cells
    obtain ⟨ga, gc, hgv⟩ := own_shape hO
    have hempty : ws = [] ∨ ∃ ws0 g, ws = ws0 ++ [g] := by
      rcases List.eq_nil_or_concat ws with h | ⟨a, b, h⟩
      · exact Or.inl h
      · exact Or.inr ⟨a, b, by rw [h, List.concat_eq_append]⟩
    clear hgf hrun hC hO hI hG hpp hB
    by_cases hgo : ws ≠ [] ∧ c'.e = 0
    · obtain ⟨hne, he0⟩ := hgo
      obtain ⟨ws0, g, rfl⟩ := hempty.resolve_left hne
      obtain ⟨at_, part, deep⟩ := g
      obtain ⟨f', rfl⟩ : ∃ f', f = f' + 1 := ⟨f - 1, by rw [List.length_append, List.length_singleton] at hpot; omega⟩
      have HRS := Lib.hid (HRUN.out.symm.trans (runG_step (g := ⟨at_, part, deep⟩) he0))
      obtain ⟨gw, hga⟩ : ∃ gw, ga = some ⟨gw, 0, none⟩ := by
        rcases HO.out.2 with ⟨hv', h0⟩ | ⟨g, cap, cur, hv', -⟩
        · rw [List.length_append, List.length_singleton] at h0; omega
        · rw [hgv] at hv'; injection hv' with e1; exact ⟨g, e1⟩
      subst hga
      rw [List.length_append, List.length_singleton] at hgv hpot
      have hO2 := HO.out
      rw [hgv] at hO2
      have hg9 := HG.out ⟨at_, part, deep⟩ (by simp)
      obtain ⟨ga1, ga2, ga3, ga4, ga5, ga6⟩ := hg9
      simp only at ga1 ga2 ga3 ga4 ga5 ga6
      have hlen0 : (ws0 ++ [(⟨at_, part, deep⟩ : Gl)]).length = ws0.length + 1 := by rw [List.length_append, List.length_singleton]
      obtain ⟨z0, z1, z2⟩ := glsC_at (ws0 ++ [(⟨at_, part, deep⟩ : Gl)]) ws0.length (by omega)
      rw [List.getElem_concat_length rfl] at z0 z1 z2
      have hcw : ∀ j u, (glsC (ws0 ++ [(⟨at_, part, deep⟩ : Gl)]))[j]? = some u → wr.cell? ⟨gw, j, none⟩ = some u := by
        intro j u hj
        have := hO2.cells (g := gw) rfl j u hj
        rwa [addr_add] at this
      have y0 := hcw _ _ z0
      have y1 := hcw _ _ z1
      have y2 := hcw _ _ z2
      have hcap : ws0.length + 1 ≤ gc := by
        rcases hO2.2 with ⟨hv', -⟩ | ⟨g, cap, cur, hv', -, -, hn', -⟩
        · cases hv'
        · injection hv' with e1 e2 e3; rw [hlen0] at hn'; omega
      have hsl := slice_pop gw ws0.length gc hcap
      have HOP := Lib.hid (own_pop hO2 rfl)
      have hc0 : (c'.e == 0) = true := by simpa using he0
      clear z0 z1 z2 hcw hO2 hne hlen0
      rw [hgv]
      clear hgv
      rw [he0] at c9
      generalize hm : ws0.length = m at *
      have HMM := Lib.hid hm; clear hm
      have HE0 := Lib.hid he0; clear he0 hc0
      have c7 : wr.cell? ⟨q.h, 7, none⟩ = some (.map (some q.m3)) := cell_of_row wr _ 7 _ _ _ HC.out.cells
      have hmb : 8 * m ≤ 1000000 := by omega
      go_upto_region 4 with fail
      have g3 : Below wr.heap.size wr (wr.alloc (.cells #[.int .i64 at_, .int .i64 part, .int .i64 deep] 97)) := (Below.refl _ _).alloc (Nat.le_refl _) _
      have qg : (wr.alloc (.cells #[.int .i64 at_, .int .i64 part, .int .i64 deep] 97)).heap[wr.heap.size]? = some (.cells #[.int .i64 at_, .int .i64 part, .int .i64 deep] 97 (0, 0)) := heap_alloc_new wr _
      generalize wr.alloc (.cells #[.int .i64 at_, .int .i64 part, .int .i64 deep] 97) = w3 at *
      have C3 := HC.out.later g3
      have hs3 := g3.size
      have b0 := cell_of_row w3 _ 0 _ _ _ qg
      have b1 := cell_of_row w3 _ 1 _ _ _ qg
      have b2 := cell_of_row w3 _ 2 _ _ _ qg
      simp at b0 b1 b2
      have hbg := lt_of_cell b0
      have hbgh : wr.heap.size ≠ q.h := by omega
      clear c7 c9 y0 y1 y2 hsl
      have c7 : w3.cell? ⟨q.h, 7, none⟩ = some (.map (some q.m3)) := cell_of_row w3 _ 7 _ _ _ C3.cells
      have hhl3 := C3.lt
      have hIat : I64 at_ := ⟨by omega, by omega⟩
      have hIpt : I64 part := ⟨by omega, by omega⟩
      have hIdp : I64 deep := ⟨by omega, by omega⟩
      have hlk : ∀ nq, (Instr.lookup 84 (.map (some q.m3)) (.int .i64 at_) true).run Tryd.prog (w3.drewN nq) = .ok (.tuple #[.int .i64 ((c'.depth at_).getD 0), .bool (c'.depth at_).isSome]) (w3.drewN nq) := fun nq => MapI.lookOk (MapI.block (w' := w3.drewN nq) C3.depth rfl) hIat
      have hdm : c'.depth at_ = if (c'.depth at_).isSome then some ((c'.depth at_).getD 0) else none := by cases c'.depth at_ <;> rfl
      generalize (c'.depth at_).getD 0 = dv at *
      generalize (c'.depth at_).isSome = mt at *
      generalize hbgn : wr.heap.size = bg at *
      have HBGN := Lib.hid hbgn; clear hbgn
      have HC3 := Lib.hid C3; have G3 := Lib.hid g3; have QG := Lib.hid qg; have HDM := Lib.hid hdm
      clear C3 g3 qg hdm
      go_quiet (fail)
      have g4 : Below w3.heap.size w3 (w3.drewN nq) := below_dn (Below.refl _ _) nq
      clear hlk b0 b1 b2 c7
      generalize w3.drewN nq = w4 at *
      have hs4 := g4.size
      have C4 := HC3.out.later g4
      have qg4 := (g4.block bg hbg).trans QG.out
      have b0 := cell_of_row w4 _ 0 _ _ _ qg4
      have b1 := cell_of_row w4 _ 1 _ _ _ qg4
      have b2 := cell_of_row w4 _ 2 _ _ _ qg4
      simp at b0 b1 b2
      have G4 := Lib.hid (G3.out.trans (g4.mono hs3))
      have WI := Lib.hid (within_any q v pv W c'.most c'.e at_ part c'.of_ M w4 C4.cells C4.of_ hIat hIpt)
      have WR := Lib.hid (wrong_any q v pv W c'.most c'.e 3 w4 C4.cells)
      have HC4 := Lib.hid C4; have QG4 := Lib.hid qg4
      have O4 := Lib.hid (owns_later HOP.out (by rw [HBGN.out]; exact G4.out))
      have B4 := Lib.hid (HB.out.trans (G4.out.mono (Nat.le_of_lt (Nat.lt_of_le_of_lt HC.out.bh hhr))))
      have hfI : ((f' + 1 : Nat) : Int) = (f' : Int) + 1 := by omega
      clear g4 C4 qg4
      by_cases hof : c'.of_ at_ = some part
      · rw [decide_eq_true hof] at WI
        cases mt
        · have hdm2 : c'.depth at_ = none := HDM.out
          obtain ⟨z0, z1, n0, n1⟩ := HIV.out.of_ _ _ hof
          obtain ⟨n, rfl⟩ := Int.eq_ofNat_of_zero_le n0
          have HRN := Lib.hid (@run_new l c' ws0 ⟨at_, (n : Int), deep⟩ hof hdm2)
          have HR2 := Lib.hid (HRS.out.trans (by rw [HRN.out]))
          have HUN := Lib.hid (@unmet_store l c'.depth at_ deep z0 z1 hdm2)
          have HI6 := Lib.hid (upd_inv (z := at_) HIV.out ⟨by omega, by omega⟩)
          have c7 : w4.cell? ⟨q.h, 7, none⟩ = some (.map (some q.m3)) := cell_of_row w4 _ 7 _ _ _ HC4.out.cells
          have HOF := Lib.hid hof
          clear hof hdm2
          go_upto_region 9 with (go_at_call 39; refine WI.out.mono ?_; rintro en w5 ⟨rfl, hw5⟩; obtain rfl := hw5.symm)
          go_still_tail 8, (by kernel_rfl)
          change wpList _ _ _ _ _ w4.drew
          obtain ⟨w5, hw5⟩ : ∃ z, z = w4.drew := ⟨_, rfl⟩
          rw [← hw5]
          have z5 : Below w4.heap.size w4 w5 := by rw [hw5]; exact (Below.refl _ _).drew
          have C5 := HC4.out.later z5
          have O5 := owns_later O4.out z5
          have q5 := (z5.block bg (Array.getElem?_eq_some_iff.1 QG4.out).1).trans QG4.out
          have B5 : Below B w1 w5 := by rw [hw5]; exact B4.out.drew
          clear hw5 z5 b0 b1 b2 c7
          obtain ⟨w6, hrun3, hm3, hgr3⟩ := C5.depth.store hIat hIdp (by omega)
          have C6 := C5.store3 hm3 hgr3
          have O6 := own_grown O5 hgr3 (fun j hj => by injection hj with hj; subst hj; exact own_ne_map O5 C5.depth)
          have q6 := (hgr3.block bg (Array.getElem?_eq_some_iff.1 q5).1 (by simpa using C5.depth.ne_cells q5)).trans q5
          have B6 := B5.trans (below_grown C5.b3 (Nat.le_of_lt (Nat.lt_of_le_of_lt C5.bh C5.lt)) hgr3)
          have b0 := cell_of_row w6 _ 0 _ _ _ q6
          simp at b0
          have HC6 := Lib.hid C6; have O6' := Lib.hid O6; have B6' := Lib.hid B6
          have hcc : I64 0 := ⟨by decide, by decide⟩
          have hDle : 65536 + 100002 * ((F : Int) - ((f' + 1 : Nat) : Int)) ≤ 1000000000 := by omega
          have ST := Lib.hid (show ∀ SM, stepM l { c' with depth := upd c'.depth at_ deep } at_ = SM → Calls Tryd.prog 40 #[.pointer (some ⟨q.h, 0, none⟩), .int .i64 at_] w6 (fun en w' => ∃ gv, en = .returned gv ∧ OwnsG w' w6.heap.size gv SM.2 ∧ CkAt w' B q v W SM.1 pv (M + 1) ∧ w6.grownBy w' (some q.h)) from fun SM h => by
            subst h
            exact step_any l B q v pv W { c' with depth := upd c'.depth at_ deep } at_ n (M + 1) (65536 + 100002 * ((F : Int) - ((f' + 1 : Nat) : Int))) w6 (HV.out.keep HBV.out ((G1.out.mono hBw).trans B6)) hl C6 HI6.out hDle HOF.out (by show c'.parts.length ≤ _; rw [HPP.out]; omega))
          have HI7 := Lib.hid (stepM_inv hl HI6.out (p := at_) (n := n) HOF.out (by show c'.parts.length ≤ _; rw [HPP.out]; omega) (by omega))
          have hs6 := (Nat.le_of_lt (Nat.lt_of_le_of_lt C6.bh C6.lt))
          have hs1 := B6.size
          clear C5 O5 q5 B5 hm3 hgr3 C6 O6 q6 B6 hcc hDle
          generalize hSM : stepM l { c' with depth := upd c'.depth at_ deep } at_ = SM at *
          have ST2 := Lib.hid (ST.out SM rfl)
          clear hSM ST
          go_wp2_with fail
          refine ST2.out.mono ?_
          rintro en w7 ⟨gv, rfl, hO7, hC7, hg7⟩
          have hs7 := hg7.size
          obtain ⟨hI7, hgb7, hgl7, hof7, hpt7, hdp7, hbl7⟩ := HI7.out
          have OW := own_grown O6'.out hg7 (fun j hj => by injection hj with hj; subst hj; exact own_ne_cells O6'.out HC6.out.cells (by decide))
          have B7 := B6'.out.trans (below_grown HC6.out.bh hs6 hg7)
          have HU7 := Lib.hid (show 4 * unmet l SM.1.depth + (m + SM.2.length) ≤ f' by
            rw [hdp7]
            have := HUN.out
            show 4 * unmet l (upd c'.depth at_ deep) + _ ≤ _
            omega)
          have HI8 := Lib.hid (show Inv l SM.1 (65536 + 100002 * ((F : Int) - f')) from hI7.mono (by omega))
          have HG8 := Lib.hid (show ∀ g ∈ ws0 ++ SM.2, GlOk (65536 + 100002 * ((F : Int) - f')) g by
            intro g hg
            rcases List.mem_append.1 hg with hg | hg
            · exact (HG.out g (by simp [hg])).mono (by omega)
            · exact (hgb7 g hg).mono (by omega))
          have HP8 := Lib.hid (show SM.1.parts = c.parts from hpt7.trans HPP.out)
          have HOW := Lib.hid (show w7.ownsRow bw 97 3 (.slice (some ⟨gw, 0, none⟩) m gc) m (glsC ws0) by have := OW; unfold OwnsG at this; rw [HMM.out] at this; exact this)
          have HC7 := Lib.hid hC7; have HB7 := Lib.hid B7; have HO7 := Lib.hid hO7
          have hbw7 : bw ≤ w7.heap.size := by omega
          have hlw : (glsC ws0).length = m * 3 := by rw [glsC_length, HMM.out]
          rcases hO7.2 with ⟨rfl, h0⟩ | ⟨g2, cap2, cur2, rfl, hB2, hg2, -⟩
          · have hnil : SM.2 = [] := List.length_eq_zero_iff.1 h0
            have HNIL := Lib.hid hnil
            clear hO7 hC7 hg7 hI7 hgb7 hof7 hpt7 hdp7 hbl7 OW B7 hnil h0 b0
            go_wp2_with (at_builtin; refine wpList_append_own_none rfl _ _ 98 rfl bw 97 i3 3 Tryd.underlying98 gi (.slice (some ⟨gw, 0, none⟩) m gc) _ _ rfl HOW.out rfl ?_)
            go_roundg f'
            case measure => rw [HGF.out]; omega
            case rel => exact ⟨f', SM.1, ws0 ++ SM.2, M + 1, rfl, HR2.out.symm, by rw [List.length_append, HMM.out]; exact HU7.out, by omega, HC7.out, by omega, by rw [HNIL.out, List.append_nil]; unfold OwnsG; rw [HMM.out]; exact HOW.out, HI8.out, HG8.out, HP8.out, HB7.out⟩
          · have A1 := Lib.hid (show ∀ j u, (glsC SM.2)[j]? = some u → w7.cell? ((⟨g2, 0, none⟩ : Addr).add j) = some u from fun j u hj => HO7.out.cells rfl j u hj)
            have A2 := Lib.hid (show ∀ u ∈ glsC SM.2, u.oneCell' = true by
              intro u hu
              unfold glsC at hu
              obtain ⟨g, -, hu⟩ := List.mem_flatMap.1 hu
              unfold glC at hu
              simp at hu
              rcases hu with rfl | rfl | rfl <;> rfl)
            have hgn : SM.2.length ≤ 3 := hgl7
            have hgln := glsC_length SM.2
            generalize hk2 : SM.2.length = k2 at *
            have HK2 := Lib.hid hk2
            clear hO7 hC7 hg7 hI7 hgb7 hof7 hpt7 hdp7 hbl7 OW B7 b0 hk2 hg2 hB2 hgl7
            go_wp2_with (at_builtin; refine wpList_append_own _ rfl _ _ 98 rfl bw 97 i3 (.agg #[.int .i64 0, .int .i64 0, .int .i64 0]) 3 24 Tryd.underlying98 gi gz0 gz1 gz2 rfl (by decide) (.slice (some ⟨gw, 0, none⟩) m gc) m (glsC ws0) rfl HOW.out ⟨g2, 0, none⟩ k2 cap2 (glsC SM.2) rfl hgln A1.out A2.out ?c3 ?c4 hbw7 ?_)
            case c3 => unfold maxLen; omega
            case c4 => omega
            intro v8 w8 hown' hgrow _
            have HC8 := Lib.hid (HC7.out.other HOW.out (by decide) (by decide) hgrow)
            have HB8 := Lib.hid (Below.grown HB7.out hgrow (Nat.le_of_lt (Nat.lt_of_le_of_lt HC7.out.bh HC7.out.lt)) (fun j hj => Nat.le_trans hBw (HOW.out.lt j hj).1))
            have HO8 := Lib.hid (show OwnsG w8 bw v8 (ws0 ++ SM.2) by
              unfold OwnsG
              have e : glsC (ws0 ++ SM.2) = glsC ws0 ++ glsC SM.2 := by unfold glsC; rw [List.flatMap_append]
              rw [e, List.length_append, HMM.out, HK2.out]
              exact hown')
            clear hown' hgrow
            go_wp2_with fail
            go_roundg f'
            case measure => rw [HGF.out]; omega
            case rel => exact ⟨f', SM.1, ws0 ++ SM.2, M + 1, rfl, HR2.out.symm, by rw [List.length_append, HMM.out, HK2.out]; exact HU7.out, by omega, HC8.out, by omega, HO8.out, HI8.out, HG8.out, HP8.out, HB8.out⟩
        · have hdm2 : c'.depth at_ = some dv := HDM.out
          have HRM := Lib.hid (@run_met l c' ws0 ⟨at_, part, deep⟩ dv hof hdm2)
          by_cases hdd : dv = deep
          · subst hdd
            have HR2 := Lib.hid (HRS.out.trans (by rw [HRM.out, if_neg (by simp)]))
            clear hof hdm2
            go_wp2_with (go_at_call 39; refine WI.out.mono ?_; rintro en w5 ⟨rfl, hw5⟩; obtain rfl := hw5.symm)
            go_roundg f'
            case measure => rw [HGF.out]; omega
            case rel => exact ⟨f', c', ws0, M, rfl, HR2.out.symm, by rw [HMM.out]; omega, by omega, HC4.out, by omega, by have := O4.out; exact this, HIV.out.mono (by omega), (fun g hg => (HG.out g (by simp [hg])).mono (by omega)), HPP.out, B4.out⟩
          · have e1 : (dv != deep) = true := by simpa using hdd
            have HR2 := Lib.hid (HRS.out.trans (by rw [HRM.out, if_pos hdd]))
            clear hof hdm2 hdd
            go_wp2_with (first | (go_at_call 39; refine WI.out.mono ?_; rintro en w5 ⟨rfl, hw5⟩; obtain rfl := hw5.symm) | (go_at_call 36; refine WR.out.mono ?_; rintro e w6 ⟨rfl, hw6⟩; have HW := Lib.hid hw6; clear hw6))
            go_roundg f'
            case measure => rw [HGF.out]; omega
            case rel => exact ⟨f', _, ws0, M, rfl, HR2.out.symm, by rw [HMM.out]; show 4 * unmet l c'.depth + m ≤ f'; omega, by omega, by rw [HW.out]; exact HC4.out.wrong 3, by omega, by rw [HW.out]; exact own_grown O4.out (wrongW_grown _ _ _ _) (fun j hj => by injection hj with hj; subst hj; exact own_ne_cells O4.out HC4.out.cells (by decide)), (HIV.out.err _).mono (by omega), (fun g hg => (HG.out g (by simp [hg])).mono (by omega)), HPP.out, B4.out.trans (by rw [HW.out]; exact below_wrong HC4.out.bh)⟩
      · rw [decide_eq_false hof] at WI
        have HR2 := Lib.hid (HRS.out.trans (by rw [run_out (g := ⟨at_, part, deep⟩) hof]))
        clear hof
        go_wp2_with (first | (go_at_call 39; refine WI.out.mono ?_; rintro en w5 ⟨rfl, hw5⟩; obtain rfl := hw5.symm) | (go_at_call 36; refine WR.out.mono ?_; rintro e w6 ⟨rfl, hw6⟩; have HW := Lib.hid hw6; clear hw6))
        go_roundg f'
        case measure => rw [HGF.out]; omega
        case rel => exact ⟨f', _, ws0, M, rfl, HR2.out.symm, by rw [HMM.out]; show 4 * unmet l c'.depth + m ≤ f'; omega, by omega, by rw [HW.out]; exact HC4.out.wrong 3, by omega, by rw [HW.out]; exact own_grown O4.out (wrongW_grown _ _ _ _) (fun j hj => by injection hj with hj; subst hj; exact own_ne_cells O4.out HC4.out.cells (by decide)), (HIV.out.err _).mono (by omega), (fun g hg => (HG.out g (by simp [hg])).mono (by omega)), HPP.out, B4.out.trans (by rw [HW.out]; exact below_wrong HC4.out.bh)⟩
    · have hend : runG l f c' ws = c' := by
        rcases hempty with rfl | ⟨ws0, g, rfl⟩
        · exact runG_nil l f c'
        · exact runG_err (fun he => hgo ⟨by simp, he⟩)
      have HRE := Lib.hid (HRUN.out.symm.trans hend)
      have hfin : ws.length = 0 ∨ (0 < ws.length ∧ c'.e ≠ 0) := by
        rcases hempty with rfl | ⟨ws0, g, rfl⟩
        · exact Or.inl rfl
        · exact Or.inr ⟨by simp, fun he => hgo ⟨by simp, he⟩⟩
      have c8 : wr.cell? ⟨q.h, 8, none⟩ = some (.int .i64 c'.most) := cell_of_row wr _ 8 _ _ _ HC.out.cells
      have f9 : wr.frozen? ⟨q.h, 9, none⟩ = false := by unfold World.frozen?; rw [HC.out.cells]; rfl
      have HBX := Lib.hid (show Below B w wr from (G1.out.mono hBw).trans HB.out)
      have HCN := Lib.hid (HC.out.mono (show M ≤ N + F by omega))
      have hwe : wr.grownBy (wr.setCell ⟨q.h, 9, none⟩ (.int .i64 2)) (some q.h) := ⟨rfl, rfl, rfl, by simp, fun k hk hne => Below.heap_setCell _ _ _ _ (by simpa using hne)⟩
      have HCW := Lib.hid (show CkAt (wr.setCell ⟨q.h, 9, none⟩ (.int .i64 2)) B q v W { c' with e := 2 } pv (N + F) from HCN.out.write hwe (by rw [heap_setCell_same _ _ _ _ _ _ HCN.out.cells]; rfl))
      have hrm := HM.out
      rw [HRE.out] at hrm
      rw [hgv]
      generalize hn : ws.length = n at *
      clear hempty hend hgo hwe hn hgv hpot
      by_cases he : c'.e = 0
      · have e1 : (c'.e == 0) = true := by simpa using he
        have hn0 : n = 0 := by omega
        by_cases hm : 200 < c'.most
        · rw [if_pos ⟨he, hm⟩] at hrm
          have e2 : decide (200 < c'.most) = true := decide_eq_true hm
          have HRM := Lib.hid hrm
          subst hn0
          clear he hm hrm hfin
          go_wp2_with fail
          go_end0
          exact ⟨rfl, by rw [HRM.out]; exact HCW.out, HBX.out.setCell (p := ⟨q.h, 9, none⟩) HC.out.bh _⟩
        · rw [if_neg (fun h => hm h.2)] at hrm
          have e2 : decide (200 < c'.most) = false := decide_eq_false hm
          have HRM := Lib.hid hrm
          subst hn0
          clear he hm hrm hfin
          go_wp2_with fail
          go_end0
          exact ⟨rfl, by rw [HRM.out]; exact HCN.out, HBX.out⟩
      · rw [if_neg (fun h => he h.1)] at hrm
        have e1 : (c'.e == 0) = false := by simpa using he
        have HRM := Lib.hid hrm
        rcases hfin with hn0 | ⟨hn0, -⟩
        · subst hn0
          clear he hrm
          go_wp2_with fail
          go_end0
          exact ⟨rfl, by rw [HRM.out]; exact HCN.out, HBX.out⟩
        · clear he hrm
          go_wp2_with fail
          go_end0
          exact ⟨rfl, by rw [HRM.out]; exact HCN.out, HBX.out⟩
end Go.Proofs.YtnajgpefmknmpaaDoor
