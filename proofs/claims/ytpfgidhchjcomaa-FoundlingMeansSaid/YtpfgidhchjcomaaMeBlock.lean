/- A block is resolved. -/
import Derived.Test.YtpfgidhchjcomaaMeCut
import Derived.Deep.RegionLaw
import Derived.StillTailTactics
namespace Go.Proofs.Ytpfgidhchjcomaa
open Go.RowKit
set_option linter.unusedVariables false
set_option maxRecDepth 100000 in
set_option maxHeartbeats 8000000 in
theorem block_any (B : Nat) (p : Nat) (kn : List Kn) (slots : Nat) (fv gv : Value) (F G : List ByteArray) (d : Nat) (K : Kfn) (n : Nd) (kv nv : Value) (w : World) (h : RsAt B w p kn slots fv gv F G) (hk : NodesX (· < B) d w kv n.kids) (hs : StrsX (· < B) w nv n.names) (ho : NdOk n) (hkc : KC B p fv gv F G d K n.kids) (hn0 : 0 ≤ n.num) (hn1 : n.num ≤ n.names.length) :
    Calls Try.prog 50 #[.pointer (some ⟨p, 0, none⟩), ndV n kv nv] w fun e w' => OnePost B w p kn fv gv F G d (blockM F K kn slots n) e w' := by
  obtain ⟨k, s, nu, ks, ns, at_⟩ := n
  replace hk : NodesX (· < B) d w kv ks := hk
  replace hs : StrsX (· < B) w nv ns := hs
  replace hn0 : 0 ≤ nu := hn0
  replace hn1 : nu ≤ ns.length := hn1
  obtain ⟨m, rfl⟩ := Int.eq_ofNat_of_zero_le hn0
  have hm : m ≤ ns.length := by omega
  obtain ⟨pv, hpv, hrp⟩ := strs_head hs m hm
  obtain ⟨tv, htv, hrt⟩ := strs_rest hs m hm
  obtain ⟨ka, kc, rfl, -⟩ := id hk.shape
  obtain ⟨na, nc, rfl, -⟩ := id hs
  have hpw := h.get.1
  have hBw : B ≤ w.heap.size := by have := h.pB; omega
  have HR := Lib.hid h
  have HKD := Lib.hid hk
  have HP := Lib.hid hpv
  have HTT := Lib.hid htv
  have HKC := Lib.hid (show KC B p fv gv F G d K ks from hkc)
  have HM := Lib.hid (show blockM F K kn slots (.mk k s (m : Int) ks ns at_) = (match declAll F kn slots (namesP (ns.take m) ++ namesV (ns.drop m)) with | none => none | some q => (K q.1 q.2 ks).map fun r => (.mk 17 noName (m : Int) (slots : Int) (ns.length : Int) r.1, r.2)) from rfl)
  obtain ⟨-, v, c0, c1, c2, c3, cf, hkn⟩ := h.get
  obtain ⟨va, vc, rfl⟩ : ∃ va vc, v = .slice va kn.length vc := by
    obtain ⟨B', hkn⟩ := hkn
    rcases hkn.2 with ⟨rfl, h0⟩ | ⟨g, cap, cur, rfl, -⟩
    · exact ⟨none, 0, by rw [h0]⟩
    · exact ⟨_, _, rfl⟩
  clear hkc h hk hs ho hpv htv hkn c2 c3 hn0 hn1
  show Calls Try.prog 50 #[.pointer (some ⟨p, 0, none⟩), .agg #[.int .i64 k, .string s, .int .i64 (m : Int), .slice ka ks.length kc, .slice na ns.length nc, .int .i64 at_]] w fun e w' => OnePost B w p kn fv gv F G d (blockM F K kn slots (.mk k s (m : Int) ks ns at_)) e w'
  have hb0 : Below w.heap.size w ((w.alloc (.cells #[.int .i64 k, .string s, .int .i64 (m : Int), .slice ka ks.length kc, .slice na ns.length nc, .int .i64 at_] 30)).alloc (.cells #[.int .i64 0, .string ⟨#[]⟩, .int .i64 0, .int .i64 0, .int .i64 0, .slice none 0 0] 73)) := ((Below.refl _ _).alloc (Nat.le_refl _) _).alloc (by simp) _
  have hq1 : ((w.alloc (.cells #[.int .i64 k, .string s, .int .i64 (m : Int), .slice ka ks.length kc, .slice na ns.length nc, .int .i64 at_] 30)).alloc (.cells #[.int .i64 0, .string ⟨#[]⟩, .int .i64 0, .int .i64 0, .int .i64 0, .slice none 0 0] 73)).heap[w.heap.size]? = some (.cells #[.int .i64 k, .string s, .int .i64 (m : Int), .slice ka ks.length kc, .slice na ns.length nc, .int .i64 at_] 30 (0, 0)) := (heap_alloc_old _ _ _ (by simp)).trans (heap_alloc_new w _)
  have hq2 : ((w.alloc (.cells #[.int .i64 k, .string s, .int .i64 (m : Int), .slice ka ks.length kc, .slice na ns.length nc, .int .i64 at_] 30)).alloc (.cells #[.int .i64 0, .string ⟨#[]⟩, .int .i64 0, .int .i64 0, .int .i64 0, .slice none 0 0] 73)).heap[w.heap.size + 1]? = some (.cells #[.int .i64 0, .string ⟨#[]⟩, .int .i64 0, .int .i64 0, .int .i64 0, .slice none 0 0] 73 (0, 0)) := heap_alloc2_new w _ _
  have hsz0 : ((w.alloc (.cells #[.int .i64 k, .string s, .int .i64 (m : Int), .slice ka ks.length kc, .slice na ns.length nc, .int .i64 at_] 30)).alloc (.cells #[.int .i64 0, .string ⟨#[]⟩, .int .i64 0, .int .i64 0, .int .i64 0, .slice none 0 0] 73)).heap.size = w.heap.size + 2 := by simp
  go_enter Try.func50, Try.ntmps50
  go_upto_region 1 with fail
  generalize ((w.alloc (.cells #[.int .i64 k, .string s, .int .i64 (m : Int), .slice ka ks.length kc, .slice na ns.length nc, .int .i64 at_] 30)).alloc (.cells #[.int .i64 0, .string ⟨#[]⟩, .int .i64 0, .int .i64 0, .int .i64 0, .slice none 0 0] 73)) = w0 at *
  have HB0 := Lib.hid hb0
  have HQ1 := Lib.hid hq1
  have HQ2 := Lib.hid hq2
  have n2 := cell_of_row w0 w.heap.size 2 _ _ _ hq1
  have n3 := cell_of_row w0 w.heap.size 3 _ _ _ hq1
  have n4 := cell_of_row w0 w.heap.size 4 _ _ _ hq1
  have n5 := cell_of_row w0 w.heap.size 5 _ _ _ hq1
  simp at n2 n3 n4 n5
  have k0 : w0.cell? ⟨p, 0, none⟩ = some (.slice va kn.length vc) := (hb0.cell (p := ⟨p, 0, none⟩) hpw).trans c0
  have k1 : w0.cell? ⟨p, 1, none⟩ = some (.int .i64 (slots : Int)) := (hb0.cell (p := ⟨p, 1, none⟩) hpw).trans c1
  clear hb0 hq1 hq2 c0 c1
  have hl0 : w.heap.size + 1 < w0.heap.size := by omega
  have hl0' : w.heap.size < w0.heap.size := by omega
  have hp0 : p < w0.heap.size := by omega
  go_upto_region 2 with fail
  have d2 : (w0.drew).cell? ⟨w.heap.size, 2, none⟩ = some (.int .i64 (m : Int)) := n2
  have d4 : (w0.drew).cell? ⟨w.heap.size, 4, none⟩ = some (.slice na ns.length nc) := n4
  have d1 : (w0.drew).cell? ⟨p, 1, none⟩ = some (.int .i64 (slots : Int)) := k1
  have HD := Lib.hid (show ∀ W, Below w0.heap.size w0 W → W.cell? ⟨w.heap.size, 2, none⟩ = some (.int .i64 (m : Int)) ∧ W.cell? ⟨w.heap.size, 4, none⟩ = some (.slice na ns.length nc) ∧ W.cell? ⟨p, 1, none⟩ = some (.int .i64 (slots : Int)) from fun W hW => ⟨(hW.cell (p := ⟨w.heap.size, 2, none⟩) hl0').trans n2, (hW.cell (p := ⟨w.heap.size, 4, none⟩) hl0').trans n4, (hW.cell (p := ⟨p, 1, none⟩) (by show p < _; omega)).trans k1⟩)
  have wa : Below w0.heap.size w0 (w0.alloc (.cells #[.int .i64 0, .string ⟨#[]⟩, .int .i64 0, .int .i64 0, .int .i64 0, .slice none 0 0] 73)) := (Below.refl _ _).alloc (Nat.le_refl _) _
  have a2 : (w0.alloc (.cells #[.int .i64 0, .string ⟨#[]⟩, .int .i64 0, .int .i64 0, .int .i64 0, .slice none 0 0] 73)).cell? ⟨w.heap.size, 2, none⟩ = some (.int .i64 (m : Int)) := (HD.out _ wa).1
  have a4 : (w0.alloc (.cells #[.int .i64 0, .string ⟨#[]⟩, .int .i64 0, .int .i64 0, .int .i64 0, .slice none 0 0] 73)).cell? ⟨w.heap.size, 4, none⟩ = some (.slice na ns.length nc) := (HD.out _ wa).2.1
  have a1 : (w0.alloc (.cells #[.int .i64 0, .string ⟨#[]⟩, .int .i64 0, .int .i64 0, .int .i64 0, .slice none 0 0] 73)).cell? ⟨p, 1, none⟩ = some (.int .i64 (slots : Int)) := (HD.out _ wa).2.2
  clear wa
  go_region
  clear d1 d2 d4 a1 a2 a4 HD k0 k1 n2 n3 n4 n5
  have hB1 : Below w.heap.size w (w0.alloc (.cells #[.int .i64 17, .string ⟨#[]⟩, .int .i64 (m : Int), .int .i64 (slots : Int), .int .i64 (ns.length : Int), .slice none 0 0] 73)).drew := HB0.out.trans (((Below.refl _ _).alloc (by omega) _).drew)
  have o1 : (w0.alloc (.cells #[.int .i64 17, .string ⟨#[]⟩, .int .i64 (m : Int), .int .i64 (slots : Int), .int .i64 (ns.length : Int), .slice none 0 0] 73)).drew.heap[w.heap.size]? = some (.cells #[.int .i64 k, .string s, .int .i64 (m : Int), .slice ka ks.length kc, .slice na ns.length nc, .int .i64 at_] 30 (0, 0)) := (heap_alloc_old w0 _ _ (by omega)).trans HQ1.out
  have o2 : (w0.alloc (.cells #[.int .i64 17, .string ⟨#[]⟩, .int .i64 (m : Int), .int .i64 (slots : Int), .int .i64 (ns.length : Int), .slice none 0 0] 73)).drew.heap[w.heap.size + 1]? = some (.cells #[.int .i64 0, .string ⟨#[]⟩, .int .i64 0, .int .i64 0, .int .i64 0, .slice none 0 0] 73 (0, 0)) := (heap_alloc_old w0 _ _ (by omega)).trans HQ2.out
  have o3 : (w0.alloc (.cells #[.int .i64 17, .string ⟨#[]⟩, .int .i64 (m : Int), .int .i64 (slots : Int), .int .i64 (ns.length : Int), .slice none 0 0] 73)).drew.heap[w.heap.size + 2]? = some (.cells #[.int .i64 17, .string ⟨#[]⟩, .int .i64 (m : Int), .int .i64 (slots : Int), .int .i64 (ns.length : Int), .slice none 0 0] 73 (0, 0)) := by rw [← hsz0]; exact heap_alloc_new w0 _
  have hsz1 : (w0.alloc (.cells #[.int .i64 17, .string ⟨#[]⟩, .int .i64 (m : Int), .int .i64 (slots : Int), .int .i64 (ns.length : Int), .slice none 0 0] 73)).drew.heap.size = w.heap.size + 3 := by
    have := hsz0
    simp [World.drew]
    omega
  generalize (w0.alloc (.cells #[.int .i64 17, .string ⟨#[]⟩, .int .i64 (m : Int), .int .i64 (slots : Int), .int .i64 (ns.length : Int), .slice none 0 0] 73)).drew = w1 at *
  have e2 : (w1.drew).cell? ⟨w.heap.size, 2, none⟩ = some (.int .i64 (m : Int)) := cell_of_row w1 _ _ _ _ _ o1
  have e4 : (w1.drew).cell? ⟨w.heap.size, 4, none⟩ = some (.slice na ns.length nc) := cell_of_row w1 _ _ _ _ _ o1
  have e5 : (w1.drew).cell? ⟨w.heap.size, 5, none⟩ = some (.int .i64 at_) := cell_of_row w1 _ _ _ _ _ o1
  have HB1 := Lib.hid hB1
  have O1 := Lib.hid o1
  have O2 := Lib.hid o2
  have O3 := Lib.hid o3
  have NX := Lib.hid (show ∀ W, W = w1.drew → Calls Try.prog 12 #[.pointer (some ⟨p, 0, none⟩), pv, tv, .int .i64 at_] W fun e w' => NmPost B W p at_ fv gv F G (declAll F kn slots (namesP (ns.take m) ++ namesV (ns.drop m))) e w' from fun W hW => by
    subst hW
    exact names_any B p kn slots fv gv F G pv tv (ns.take m) (ns.drop m) at_ _ (HR.out.later HB1.out.drew) (HP.out.later HB1.out.drew) (HTT.out.later HB1.out.drew))
  clear hB1 o1 o2 o3
  cases hda : declAll F kn slots (namesP (ns.take m) ++ namesV (ns.drop m)) with
  | none =>
    rw [hda] at NX
    have HV := Lib.hid (show blockM F K kn slots (.mk k s (m : Int) ks ns at_) = none by rw [HM.out, hda])
    clear hda
    go_upto_region 3 with fail
    go_still_tail 13, (by kernel_rfl)
    change wpList _ _ _ _ _ w1.drew
    replace NX := Lib.hid (NX.out _ rfl)
    have HDW := Lib.hid (show Below w1.heap.size w1 w1.drew from (Below.refl _ _).drew)
    have hd : w1.drew.heap.size = w1.heap.size := rfl
    generalize w1.drew = w2 at *
    go_wp2_with fail
    refine NX.out.mono ?_
    rintro e w6 ⟨⟨e', hne, rfl⟩, h6⟩
    have H6 := Lib.hid (Below.trans (below_down HB1.out hBw) (Below.trans (below_down HDW.out (by omega)) h6))
    clear h6
    go_wp2_with fail
    exact ⟨rfl, OnePost.no HV.out ⟨_, hne, rfl⟩ H6.out⟩
  | some q =>
    obtain ⟨kn1, sl1⟩ := q
    obtain ⟨kx, hkx⟩ := declAll_ext F _ _ _ _ hda
    obtain rfl : kn1 = kn ++ kx := hkx
    rw [hda] at NX
    have HV0 := Lib.hid (show blockM F K kn slots (.mk k s (m : Int) ks ns at_) = (K (kn ++ kx) sl1 ks).map fun r => (.mk 17 noName (m : Int) (slots : Int) (ns.length : Int) r.1, r.2) by rw [HM.out, hda])
    clear hda HM
    go_upto_region 3 with fail
    go_still_tail 13, (by kernel_rfl)
    change wpList _ _ _ _ _ w1.drew
    replace NX := Lib.hid (NX.out _ rfl)
    have HDW := Lib.hid (show Below w1.heap.size w1 w1.drew from (Below.refl _ _).drew)
    have hd : w1.drew.heap.size = w1.heap.size := rfl
    generalize w1.drew = w2 at *
    go_wp2_with fail
    refine NX.out.mono ?_
    rintro e w4 ⟨rfl, hr4, hk4, hb4⟩
    have hk5 : Kt p w1 w4 := Kt.trans (Kt.of_below HDW.out (by omega)) hk4
    have hb5 : Below B w1 w4 := Below.trans (below_down HDW.out (by omega)) hb4
    have z4 := hk5.size
    have P1 := Lib.hid (hk5.keep (HR.out.later HB1.out) O1.out (by decide) (by decide))
    have P2 := Lib.hid (hk5.keep (HR.out.later HB1.out) O2.out (by decide) (by decide))
    have P3 := Lib.hid (hk5.keep (HR.out.later HB1.out) O3.out (by decide) (by decide))
    have HR4 := Lib.hid hr4
    have HK4 := Lib.hid hk5
    have HB4 := Lib.hid hb5
    clear hr4 hk4 hb4 hk5 hb5
    all_goals
      have q3 := cell_of_row w4 w.heap.size 3 _ _ _ P1.out
      simp at q3
      have AX := HKC.out (.slice ka ks.length kc) (kn ++ kx) sl1 w4 HR4.out (HKD.out.keep fun k _ hk => ((below_down HB1.out hBw).trans HB4.out).block k hk)
      clear e2 e4 e5
      cases hq : K (kn ++ kx) sl1 ks with
      | none =>
        rw [hq] at AX
        have HV := Lib.hid (HV0.out.trans (by rw [hq]; try rfl))
        have AY := Lib.hid AX
        clear hq AX HV0
        go_wp2_with fail
        refine AY.out.mono ?_
        rintro e w6 ⟨⟨at6, e', hne, rfl⟩, h6⟩
        have H6 := Lib.hid (((below_down HB1.out hBw).trans HB4.out).trans h6)
        clear h6
        go_wp2_with fail
        exact ⟨rfl, OnePost.no HV.out ⟨e', hne, rfl⟩ H6.out⟩
      | some r =>
        obtain ⟨its, s'⟩ := r
        rw [hq] at AX
        have HV := Lib.hid (HV0.out.trans (by rw [hq]; try rfl : _ = some ((.mk 17 noName (m : Int) (slots : Int) (ns.length : Int) its : It), s')))
        have AY := Lib.hid AX
        clear hq AX HV0
        go_wp2_with fail
        refine AY.out.mono ?_
        rintro e w6 ⟨v6, rfl, hit, hr6, hk6, hb6⟩
        obtain ⟨a6, c6, rfl, -⟩ := id hit.shape
        have z6 := hk6.size
        have r2 := hk6.keep HR4.out P2.out (by decide) (by decide)
        have r3 := hk6.keep HR4.out P3.out (by decide) (by decide)
        have HIT := Lib.hid hit
        have HR6 := Lib.hid hr6
        have HK6 := Lib.hid (((Kt.of_below HB1.out hpw).trans HK4.out).trans hk6)
        have HB6 := Lib.hid (((below_down HB1.out hBw).trans HB4.out).trans hb6)
        have R2 := Lib.hid r2
        have R3 := Lib.hid r3
        have y5 := cell_of_row w6 (w.heap.size + 2) 5 _ _ _ r3
        have yf : w6.frozen? ⟨w.heap.size + 2, 5, none⟩ = false := (by unfold World.frozen?; rw [r3]; simp)
        simp at y5
        clear hit hr6 hk6 hb6 r2 r3
        go_upto_region 5 with fail
        have BS := box_set hpw hBw (Q := w.heap.size + 2) (by omega) HK6.out HB6.out HR6.out ⟨_, _, R3.out⟩ (grownBy_set w6 (w.heap.size + 2) 5 (.slice a6 its.length c6))
        have s2 := (heap_set_far (w := w6) (i := 5) (v := .slice a6 its.length c6) (show w.heap.size + 1 ≠ w.heap.size + 2 by omega)).trans R2.out
        have s3 := heap_set (i := 5) R3.out (.slice a6 its.length c6)
        have s4 : ItsX 73 (fun b => w4.heap.size ≤ b) d (w6.setCell ⟨w.heap.size + 2, 5, none⟩ (.slice a6 its.length c6)) (.slice a6 its.length c6) its := HIT.out.keep fun k hk hx _ => heap_set_far (by omega)
        generalize (w6.setCell ⟨w.heap.size + 2, 5, none⟩ (.slice a6 its.length c6)) = wA at *
        obtain ⟨hrA, hkA, hbA⟩ := BS
        obtain ⟨-, vA, a0, -, -, -, af, -⟩ := hrA.get
        obtain ⟨_, ⟨ga, gc, rfl⟩, hcut, hrB, hkB, hbB⟩ := hrA.pop a0
        have HKB := Lib.hid (hkA.trans hkB)
        have HBB := Lib.hid (hbA.trans hbB)
        have HRB := Lib.hid hrB
        have T2 := Lib.hid ((heap_set_far (w := wA) (i := 0) (v := (.slice ga kn.length gc)) (show w.heap.size + 1 ≠ p by omega)).trans s2)
        have T3 := Lib.hid ((heap_set_far (w := wA) (i := 0) (v := (.slice ga kn.length gc)) (show w.heap.size + 2 ≠ p by omega)).trans s3)
        have HI := Lib.hid (show ItsX 73 (fun b => w4.heap.size ≤ b) d (wA.setCell ⟨p, 0, none⟩ (.slice ga kn.length gc)) (.slice a6 its.length c6) its from s4.keep fun k hk hx _ => heap_set_far (by omega))
        clear hkA hkB hbA hbB hrA hrB s2 s3 s4 y5 yf
        go_upto_region 6 with fail
        generalize (wA.setCell ⟨p, 0, none⟩ (.slice ga kn.length gc)) = wB at *
        have o0 := cell_of_row wB (w.heap.size + 2) 0 _ _ _ T3.out
        have o1 := cell_of_row wB (w.heap.size + 2) 1 _ _ _ T3.out
        have o2 := cell_of_row wB (w.heap.size + 2) 2 _ _ _ T3.out
        have o3 := cell_of_row wB (w.heap.size + 2) 3 _ _ _ T3.out
        have o4 := cell_of_row wB (w.heap.size + 2) 4 _ _ _ T3.out
        have o5 := cell_of_row wB (w.heap.size + 2) 5 _ _ _ T3.out
        have y0 := cell_of_row wB (w.heap.size + 1) 0 _ _ _ T2.out
        have y1 := cell_of_row wB (w.heap.size + 1) 1 _ _ _ T2.out
        have y2 := cell_of_row wB (w.heap.size + 1) 2 _ _ _ T2.out
        have y3 := cell_of_row wB (w.heap.size + 1) 3 _ _ _ T2.out
        have y4 := cell_of_row wB (w.heap.size + 1) 4 _ _ _ T2.out
        have y5 := cell_of_row wB (w.heap.size + 1) 5 _ _ _ T2.out
        have yf : ∀ j, wB.frozen? ⟨w.heap.size + 1, j, none⟩ = false := (by intro j; unfold World.frozen?; rw [T2.out]; simp)
        simp at o0 o1 o2 o3 o4 o5 y0 y1 y2 y3 y4 y5
        go_wp2_with fail
        refine bodyPost_ret (v := .agg #[.int .i64 17, .string noName, .int .i64 (m : Int), .int .i64 (slots : Int), .int .i64 (ns.length : Int), .slice a6 its.length c6]) (results_cell_row Try.results50 _ _ (w.heap.size + 1) 73 #[.int .i64 17, .string noName, .int .i64 (m : Int), .int .i64 (slots : Int), .int .i64 (ns.length : Int), .slice a6 its.length c6] (0, 0) _ rfl (heap_set6 T2.out _ _ _ _ _ _) Try.underlying73 rfl (by kernel_rfl)) rfl ?_
        have BG := grownBy_set6 wB (w.heap.size + 1) (.int .i64 17) (.string noName) (.int .i64 (m : Int)) (.int .i64 (slots : Int)) (.int .i64 (ns.length : Int)) (.slice a6 its.length c6)
        have BE := box_set hpw hBw (Q := w.heap.size + 1) (by omega) HKB.out HBB.out HRB.out ⟨_, _, T2.out⟩ BG
        refine OnePost.yes HV.out rfl ?_ trivial BE.1 BE.2.1 BE.2.2
        exact (HI.out.keep fun k hk hx _ => BG.block k hk fun e => by injection e with e; omega).weak fun b hb => by omega
end Go.Proofs.Ytpfgidhchjcomaa
