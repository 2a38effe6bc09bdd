/- One node is resolved: a literal, a return, a name, no kind. -/
import Derived.Test.YtpfgidhchjcomaaMeItemR
import Derived.RegionDies
namespace Go.Proofs.Ytpfgidhchjcomaa
open Go.RowKit
set_option linter.unusedVariables false
set_option maxRecDepth 100000 in
set_option maxHeartbeats 8000000 in
theorem item_lit (B : Nat) (p : Nat) (kn : List Kn) (slots : Nat) (fv gv : Value) (F G : List ByteArray) (d : Nat) (K : Kfn) (n : Nd) (kv nv : Value) (w : World) (h : RsAt B w p kn slots fv gv F G) (hk : NodesX (· < B) d w kv n.kids) (hs : StrsX (· < B) w nv n.names) (ho : NdOk n) (hkc : KC B p fv gv F G d K n.kids) (hne : K kn slots n.kids ≠ none) (hkk : n.kind = 1 ∨ n.kind = 2 ∨ n.kind = 3 ∨ n.kind = 4) :
    Calls Try.prog 28 #[.pointer (some ⟨p, 0, none⟩), ndV n kv nv] w fun e w' => OnePost B w p kn fv gv F G d ((K kn slots n.kids).map fun r => (.mk n.kind n.name n.num 0 0 r.1, r.2)) e w' := by
  obtain ⟨k, s, nu, ks, ns, at_⟩ := n
  replace hk : NodesX (· < B) d w kv ks := hk
  replace hs : StrsX (· < B) w nv ns := hs
  obtain ⟨ka, kc, rfl, -⟩ := id hk.shape
  obtain ⟨na, nc, rfl, -⟩ := id hs
  have hpw := h.get.1
  have hBw : B ≤ w.heap.size := by have := h.pB; omega
  have HR := Lib.hid h
  have HKD := Lib.hid hk
  have HNS := Lib.hid hs
  have HKC := Lib.hid (show KC B p fv gv F G d K ks from hkc)
  replace hne : K kn slots ks ≠ none := hne
  clear hkc h hk hs ho
  rcases hkk with hkk | hkk | hkk | hkk
  · obtain rfl : k = 1 := hkk
    show Calls Try.prog 28 #[.pointer (some ⟨p, 0, none⟩), .agg #[.int .i64 1, .string s, .int .i64 nu, .slice ka ks.length kc, .slice na ns.length nc, .int .i64 at_]] w fun e w' => OnePost B w p kn fv gv F G d ((K kn slots ks).map fun r => (.mk 1 s nu 0 0 r.1, r.2)) e w'
    have hb0 : Below w.heap.size w ((w.alloc (.cells #[.int .i64 1, .string s, .int .i64 nu, .slice ka ks.length kc, .slice na ns.length nc, .int .i64 at_] 30)).alloc (.cells #[.int .i64 0, .string ⟨#[]⟩, .int .i64 0, .int .i64 0, .int .i64 0, .slice none 0 0] 73)) := ((Below.refl _ _).alloc (Nat.le_refl _) _).alloc (by simp) _
    have hq1 : ((w.alloc (.cells #[.int .i64 1, .string s, .int .i64 nu, .slice ka ks.length kc, .slice na ns.length nc, .int .i64 at_] 30)).alloc (.cells #[.int .i64 0, .string ⟨#[]⟩, .int .i64 0, .int .i64 0, .int .i64 0, .slice none 0 0] 73)).heap[w.heap.size]? = some (.cells #[.int .i64 1, .string s, .int .i64 nu, .slice ka ks.length kc, .slice na ns.length nc, .int .i64 at_] 30 (0, 0)) := (heap_alloc_old _ _ _ (by simp)).trans (heap_alloc_new w _)
    have hq2 : ((w.alloc (.cells #[.int .i64 1, .string s, .int .i64 nu, .slice ka ks.length kc, .slice na ns.length nc, .int .i64 at_] 30)).alloc (.cells #[.int .i64 0, .string ⟨#[]⟩, .int .i64 0, .int .i64 0, .int .i64 0, .slice none 0 0] 73)).heap[w.heap.size + 1]? = some (.cells #[.int .i64 0, .string ⟨#[]⟩, .int .i64 0, .int .i64 0, .int .i64 0, .slice none 0 0] 73 (0, 0)) := heap_alloc2_new w _ _
    have hsz0 : ((w.alloc (.cells #[.int .i64 1, .string s, .int .i64 nu, .slice ka ks.length kc, .slice na ns.length nc, .int .i64 at_] 30)).alloc (.cells #[.int .i64 0, .string ⟨#[]⟩, .int .i64 0, .int .i64 0, .int .i64 0, .slice none 0 0] 73)).heap.size = w.heap.size + 2 := by simp
    go_enter Try.func28, Try.ntmps28
    go_upto_region 1 with fail
    generalize ((w.alloc (.cells #[.int .i64 1, .string s, .int .i64 nu, .slice ka ks.length kc, .slice na ns.length nc, .int .i64 at_] 30)).alloc (.cells #[.int .i64 0, .string ⟨#[]⟩, .int .i64 0, .int .i64 0, .int .i64 0, .slice none 0 0] 73)) = w0 at *
    have HB0 := Lib.hid hb0
    have HQ1 := Lib.hid hq1
    have HQ2 := Lib.hid hq2
    have n0 := cell_of_row w0 w.heap.size 0 _ _ _ hq1
    have n1 := cell_of_row w0 w.heap.size 1 _ _ _ hq1
    have n2 := cell_of_row w0 w.heap.size 2 _ _ _ hq1
    have n3 := cell_of_row w0 w.heap.size 3 _ _ _ hq1
    have n4 := cell_of_row w0 w.heap.size 4 _ _ _ hq1
    have n5 := cell_of_row w0 w.heap.size 5 _ _ _ hq1
    simp at n0 n1 n2 n3 n4 n5
    clear hb0 hq1 hq2
    have AY := Lib.hid (show ∀ W, Below w0.heap.size w0 W → Calls Try.prog 13 #[.pointer (some ⟨p, 0, none⟩), .slice ka ks.length kc] W fun e w' => AlPost B W p kn fv gv F G d (K kn slots ks) e w' from fun W hW => HKC.out _ kn slots W ((HR.out.later HB0.out).later hW) ((HKD.out.later HB0.out).later hW))
    have hn0 : w.heap.size < w0.heap.size := by omega
    clear HKC
    cases hx : K kn slots ks with
    | none => exact absurd hx hne
    | some q =>
      obtain ⟨its, s'⟩ := q
      rw [hx] at AY
      have HV := Lib.hid (show ((K kn slots ks).map fun (r : List It × Nat) => ((.mk 1 s nu 0 0 r.1 : It), r.2)) = some (.mk 1 s nu 0 0 its, s') by rw [hx]; rfl)
      clear hx
      have p0 : (w0.drew).cell? ⟨w.heap.size, 0, none⟩ = some (.int .i64 1) := n0
      have p1 : (w0.drew).cell? ⟨w.heap.size, 1, none⟩ = some (.string s) := n1
      have p2 : (w0.drew).cell? ⟨w.heap.size, 2, none⟩ = some (.int .i64 nu) := n2
      have p3 : (w0.drew).cell? ⟨w.heap.size, 3, none⟩ = some (.slice ka ks.length kc) := n3
      go_upto_region 6 with fail
      go_region_held3 (fun w' => w'.cell? ⟨w.heap.size, 0, none⟩ = some (.int .i64 1) ∧ w'.cell? ⟨w.heap.size, 1, none⟩ = some (.string s) ∧ w'.cell? ⟨w.heap.size, 2, none⟩ = some (.int .i64 nu) ∧ w'.cell? ⟨w.heap.size, 3, none⟩ = some (.slice ka ks.length kc))
        (first | with_reducible exact ⟨p0, p1, p2, p3⟩ | with_reducible exact ⟨r0, r1, r2, r3⟩ | (refine ⟨?_, ?_, ?_, ?_⟩ <;> (repeat rw [World.cell?_setCell_far _ _ _ _ (by simp)]) <;> with_reducible assumption))
        (first
          | (go_at_call 13
             refine (AY.out _ ?_).mono ?_
             · exact (Below.refl _ _).drew
             rintro e w6 ⟨v6, rfl, hit, hr6, hk6, hb6⟩
             obtain ⟨a6, c6, rfl, -⟩ := id hit.shape
             have hk7 : Kt p w0 w6 := (Kt.of_below ((Below.refl _ _).drew) (by omega)).trans hk6
             have hb7 : Below B w0 w6 := (Below.refl B w0).drew.trans hb6
             have x5 := hk7.keep (HR.out.later HB0.out) HQ1.out (by decide) (by decide)
             have x6 := hk7.keep (HR.out.later HB0.out) HQ2.out (by decide) (by decide)
             have HZ := Lib.hid x6
             have r0 := cell_of_row w6 w.heap.size 0 _ _ _ x5
             have r1 := cell_of_row w6 w.heap.size 1 _ _ _ x5
             have r2 := cell_of_row w6 w.heap.size 2 _ _ _ x5
             have r3 := cell_of_row w6 w.heap.size 3 _ _ _ x5
             simp at r0 r1 r2 r3
             have y0 := cell_of_row w6 (w.heap.size + 1) 0 _ _ _ x6
             have y1 := cell_of_row w6 (w.heap.size + 1) 1 _ _ _ x6
             have y2 := cell_of_row w6 (w.heap.size + 1) 2 _ _ _ x6
             have y3 := cell_of_row w6 (w.heap.size + 1) 3 _ _ _ x6
             have y4 := cell_of_row w6 (w.heap.size + 1) 4 _ _ _ x6
             have y5 := cell_of_row w6 (w.heap.size + 1) 5 _ _ _ x6
             have yf : ∀ j, w6.frozen? ⟨w.heap.size + 1, j, none⟩ = false := (by intro j; unfold World.frozen?; rw [x6]; simp)
             simp at y0 y1 y2 y3 y4 y5
             have BD := Lib.hid (fun wF hg => box_done (Q := w.heap.size + 1) (wF := wF) HB0.out hpw hBw (by omega) (by omega) hk7 hb7 hr6 hit ⟨_, _, x6⟩ hg)
             clear hit hr6 hk6 hb6 x6 hk7 hb7 x5))
      clear p0 p1 p2 p3
      go_wp2_with fail
      refine bodyPost_ret (v := .agg #[.int .i64 (1), .string (s), .int .i64 (nu), .int .i64 (0), .int .i64 (0), (.slice a6 its.length c6)]) (results_cell_row Try.results28 _ _ (w.heap.size + 1) 73 #[.int .i64 (1), .string (s), .int .i64 (nu), .int .i64 (0), .int .i64 (0), (.slice a6 its.length c6)] (0, 0) _ rfl (heap_set6 HZ.out _ _ _ _ _ _) Try.underlying73 rfl (by kernel_rfl)) rfl ?_
      have BE := BD.out _ (grownBy_set6 w6 (w.heap.size + 1) (.int .i64 1) (.string s) (.int .i64 nu) (.int .i64 0) (.int .i64 0) (.slice a6 its.length c6))
      exact OnePost.yes HV.out rfl BE.1 trivial BE.2.1 BE.2.2.1 BE.2.2.2
  · obtain rfl : k = 2 := hkk
    show Calls Try.prog 28 #[.pointer (some ⟨p, 0, none⟩), .agg #[.int .i64 2, .string s, .int .i64 nu, .slice ka ks.length kc, .slice na ns.length nc, .int .i64 at_]] w fun e w' => OnePost B w p kn fv gv F G d ((K kn slots ks).map fun r => (.mk 2 s nu 0 0 r.1, r.2)) e w'
    have hb0 : Below w.heap.size w ((w.alloc (.cells #[.int .i64 2, .string s, .int .i64 nu, .slice ka ks.length kc, .slice na ns.length nc, .int .i64 at_] 30)).alloc (.cells #[.int .i64 0, .string ⟨#[]⟩, .int .i64 0, .int .i64 0, .int .i64 0, .slice none 0 0] 73)) := ((Below.refl _ _).alloc (Nat.le_refl _) _).alloc (by simp) _
    have hq1 : ((w.alloc (.cells #[.int .i64 2, .string s, .int .i64 nu, .slice ka ks.length kc, .slice na ns.length nc, .int .i64 at_] 30)).alloc (.cells #[.int .i64 0, .string ⟨#[]⟩, .int .i64 0, .int .i64 0, .int .i64 0, .slice none 0 0] 73)).heap[w.heap.size]? = some (.cells #[.int .i64 2, .string s, .int .i64 nu, .slice ka ks.length kc, .slice na ns.length nc, .int .i64 at_] 30 (0, 0)) := (heap_alloc_old _ _ _ (by simp)).trans (heap_alloc_new w _)
    have hq2 : ((w.alloc (.cells #[.int .i64 2, .string s, .int .i64 nu, .slice ka ks.length kc, .slice na ns.length nc, .int .i64 at_] 30)).alloc (.cells #[.int .i64 0, .string ⟨#[]⟩, .int .i64 0, .int .i64 0, .int .i64 0, .slice none 0 0] 73)).heap[w.heap.size + 1]? = some (.cells #[.int .i64 0, .string ⟨#[]⟩, .int .i64 0, .int .i64 0, .int .i64 0, .slice none 0 0] 73 (0, 0)) := heap_alloc2_new w _ _
    have hsz0 : ((w.alloc (.cells #[.int .i64 2, .string s, .int .i64 nu, .slice ka ks.length kc, .slice na ns.length nc, .int .i64 at_] 30)).alloc (.cells #[.int .i64 0, .string ⟨#[]⟩, .int .i64 0, .int .i64 0, .int .i64 0, .slice none 0 0] 73)).heap.size = w.heap.size + 2 := by simp
    go_enter Try.func28, Try.ntmps28
    go_upto_region 1 with fail
    generalize ((w.alloc (.cells #[.int .i64 2, .string s, .int .i64 nu, .slice ka ks.length kc, .slice na ns.length nc, .int .i64 at_] 30)).alloc (.cells #[.int .i64 0, .string ⟨#[]⟩, .int .i64 0, .int .i64 0, .int .i64 0, .slice none 0 0] 73)) = w0 at *
    have HB0 := Lib.hid hb0
    have HQ1 := Lib.hid hq1
    have HQ2 := Lib.hid hq2
    have n0 := cell_of_row w0 w.heap.size 0 _ _ _ hq1
    have n1 := cell_of_row w0 w.heap.size 1 _ _ _ hq1
    have n2 := cell_of_row w0 w.heap.size 2 _ _ _ hq1
    have n3 := cell_of_row w0 w.heap.size 3 _ _ _ hq1
    have n4 := cell_of_row w0 w.heap.size 4 _ _ _ hq1
    have n5 := cell_of_row w0 w.heap.size 5 _ _ _ hq1
    simp at n0 n1 n2 n3 n4 n5
    clear hb0 hq1 hq2
    have AY := Lib.hid (show ∀ W, Below w0.heap.size w0 W → Calls Try.prog 13 #[.pointer (some ⟨p, 0, none⟩), .slice ka ks.length kc] W fun e w' => AlPost B W p kn fv gv F G d (K kn slots ks) e w' from fun W hW => HKC.out _ kn slots W ((HR.out.later HB0.out).later hW) ((HKD.out.later HB0.out).later hW))
    have hn0 : w.heap.size < w0.heap.size := by omega
    clear HKC
    cases hx : K kn slots ks with
    | none => exact absurd hx hne
    | some q =>
      obtain ⟨its, s'⟩ := q
      rw [hx] at AY
      have HV := Lib.hid (show ((K kn slots ks).map fun (r : List It × Nat) => ((.mk 2 s nu 0 0 r.1 : It), r.2)) = some (.mk 2 s nu 0 0 its, s') by rw [hx]; rfl)
      clear hx
      have p0 : (w0.drew).cell? ⟨w.heap.size, 0, none⟩ = some (.int .i64 2) := n0
      have p1 : (w0.drew).cell? ⟨w.heap.size, 1, none⟩ = some (.string s) := n1
      have p2 : (w0.drew).cell? ⟨w.heap.size, 2, none⟩ = some (.int .i64 nu) := n2
      have p3 : (w0.drew).cell? ⟨w.heap.size, 3, none⟩ = some (.slice ka ks.length kc) := n3
      go_upto_region 6 with fail
      go_region_held3 (fun w' => w'.cell? ⟨w.heap.size, 0, none⟩ = some (.int .i64 2) ∧ w'.cell? ⟨w.heap.size, 1, none⟩ = some (.string s) ∧ w'.cell? ⟨w.heap.size, 2, none⟩ = some (.int .i64 nu) ∧ w'.cell? ⟨w.heap.size, 3, none⟩ = some (.slice ka ks.length kc))
        (first | with_reducible exact ⟨p0, p1, p2, p3⟩ | with_reducible exact ⟨r0, r1, r2, r3⟩ | (refine ⟨?_, ?_, ?_, ?_⟩ <;> (repeat rw [World.cell?_setCell_far _ _ _ _ (by simp)]) <;> with_reducible assumption))
        (first
          | (go_at_call 13
             refine (AY.out _ ?_).mono ?_
             · exact (Below.refl _ _).drew
             rintro e w6 ⟨v6, rfl, hit, hr6, hk6, hb6⟩
             obtain ⟨a6, c6, rfl, -⟩ := id hit.shape
             have hk7 : Kt p w0 w6 := (Kt.of_below ((Below.refl _ _).drew) (by omega)).trans hk6
             have hb7 : Below B w0 w6 := (Below.refl B w0).drew.trans hb6
             have x5 := hk7.keep (HR.out.later HB0.out) HQ1.out (by decide) (by decide)
             have x6 := hk7.keep (HR.out.later HB0.out) HQ2.out (by decide) (by decide)
             have HZ := Lib.hid x6
             have r0 := cell_of_row w6 w.heap.size 0 _ _ _ x5
             have r1 := cell_of_row w6 w.heap.size 1 _ _ _ x5
             have r2 := cell_of_row w6 w.heap.size 2 _ _ _ x5
             have r3 := cell_of_row w6 w.heap.size 3 _ _ _ x5
             simp at r0 r1 r2 r3
             have y0 := cell_of_row w6 (w.heap.size + 1) 0 _ _ _ x6
             have y1 := cell_of_row w6 (w.heap.size + 1) 1 _ _ _ x6
             have y2 := cell_of_row w6 (w.heap.size + 1) 2 _ _ _ x6
             have y3 := cell_of_row w6 (w.heap.size + 1) 3 _ _ _ x6
             have y4 := cell_of_row w6 (w.heap.size + 1) 4 _ _ _ x6
             have y5 := cell_of_row w6 (w.heap.size + 1) 5 _ _ _ x6
             have yf : ∀ j, w6.frozen? ⟨w.heap.size + 1, j, none⟩ = false := (by intro j; unfold World.frozen?; rw [x6]; simp)
             simp at y0 y1 y2 y3 y4 y5
             have BD := Lib.hid (fun wF hg => box_done (Q := w.heap.size + 1) (wF := wF) HB0.out hpw hBw (by omega) (by omega) hk7 hb7 hr6 hit ⟨_, _, x6⟩ hg)
             clear hit hr6 hk6 hb6 x6 hk7 hb7 x5))
      clear p0 p1 p2 p3
      go_wp2_with fail
      refine bodyPost_ret (v := .agg #[.int .i64 (2), .string (s), .int .i64 (nu), .int .i64 (0), .int .i64 (0), (.slice a6 its.length c6)]) (results_cell_row Try.results28 _ _ (w.heap.size + 1) 73 #[.int .i64 (2), .string (s), .int .i64 (nu), .int .i64 (0), .int .i64 (0), (.slice a6 its.length c6)] (0, 0) _ rfl (heap_set6 HZ.out _ _ _ _ _ _) Try.underlying73 rfl (by kernel_rfl)) rfl ?_
      have BE := BD.out _ (grownBy_set6 w6 (w.heap.size + 1) (.int .i64 2) (.string s) (.int .i64 nu) (.int .i64 0) (.int .i64 0) (.slice a6 its.length c6))
      exact OnePost.yes HV.out rfl BE.1 trivial BE.2.1 BE.2.2.1 BE.2.2.2
  · obtain rfl : k = 3 := hkk
    show Calls Try.prog 28 #[.pointer (some ⟨p, 0, none⟩), .agg #[.int .i64 3, .string s, .int .i64 nu, .slice ka ks.length kc, .slice na ns.length nc, .int .i64 at_]] w fun e w' => OnePost B w p kn fv gv F G d ((K kn slots ks).map fun r => (.mk 3 s nu 0 0 r.1, r.2)) e w'
    have hb0 : Below w.heap.size w ((w.alloc (.cells #[.int .i64 3, .string s, .int .i64 nu, .slice ka ks.length kc, .slice na ns.length nc, .int .i64 at_] 30)).alloc (.cells #[.int .i64 0, .string ⟨#[]⟩, .int .i64 0, .int .i64 0, .int .i64 0, .slice none 0 0] 73)) := ((Below.refl _ _).alloc (Nat.le_refl _) _).alloc (by simp) _
    have hq1 : ((w.alloc (.cells #[.int .i64 3, .string s, .int .i64 nu, .slice ka ks.length kc, .slice na ns.length nc, .int .i64 at_] 30)).alloc (.cells #[.int .i64 0, .string ⟨#[]⟩, .int .i64 0, .int .i64 0, .int .i64 0, .slice none 0 0] 73)).heap[w.heap.size]? = some (.cells #[.int .i64 3, .string s, .int .i64 nu, .slice ka ks.length kc, .slice na ns.length nc, .int .i64 at_] 30 (0, 0)) := (heap_alloc_old _ _ _ (by simp)).trans (heap_alloc_new w _)
    have hq2 : ((w.alloc (.cells #[.int .i64 3, .string s, .int .i64 nu, .slice ka ks.length kc, .slice na ns.length nc, .int .i64 at_] 30)).alloc (.cells #[.int .i64 0, .string ⟨#[]⟩, .int .i64 0, .int .i64 0, .int .i64 0, .slice none 0 0] 73)).heap[w.heap.size + 1]? = some (.cells #[.int .i64 0, .string ⟨#[]⟩, .int .i64 0, .int .i64 0, .int .i64 0, .slice none 0 0] 73 (0, 0)) := heap_alloc2_new w _ _
    have hsz0 : ((w.alloc (.cells #[.int .i64 3, .string s, .int .i64 nu, .slice ka ks.length kc, .slice na ns.length nc, .int .i64 at_] 30)).alloc (.cells #[.int .i64 0, .string ⟨#[]⟩, .int .i64 0, .int .i64 0, .int .i64 0, .slice none 0 0] 73)).heap.size = w.heap.size + 2 := by simp
    go_enter Try.func28, Try.ntmps28
    go_upto_region 1 with fail
    generalize ((w.alloc (.cells #[.int .i64 3, .string s, .int .i64 nu, .slice ka ks.length kc, .slice na ns.length nc, .int .i64 at_] 30)).alloc (.cells #[.int .i64 0, .string ⟨#[]⟩, .int .i64 0, .int .i64 0, .int .i64 0, .slice none 0 0] 73)) = w0 at *
    have HB0 := Lib.hid hb0
    have HQ1 := Lib.hid hq1
    have HQ2 := Lib.hid hq2
    have n0 := cell_of_row w0 w.heap.size 0 _ _ _ hq1
    have n1 := cell_of_row w0 w.heap.size 1 _ _ _ hq1
    have n2 := cell_of_row w0 w.heap.size 2 _ _ _ hq1
    have n3 := cell_of_row w0 w.heap.size 3 _ _ _ hq1
    have n4 := cell_of_row w0 w.heap.size 4 _ _ _ hq1
    have n5 := cell_of_row w0 w.heap.size 5 _ _ _ hq1
    simp at n0 n1 n2 n3 n4 n5
    clear hb0 hq1 hq2
    have AY := Lib.hid (show ∀ W, Below w0.heap.size w0 W → Calls Try.prog 13 #[.pointer (some ⟨p, 0, none⟩), .slice ka ks.length kc] W fun e w' => AlPost B W p kn fv gv F G d (K kn slots ks) e w' from fun W hW => HKC.out _ kn slots W ((HR.out.later HB0.out).later hW) ((HKD.out.later HB0.out).later hW))
    have hn0 : w.heap.size < w0.heap.size := by omega
    clear HKC
    cases hx : K kn slots ks with
    | none => exact absurd hx hne
    | some q =>
      obtain ⟨its, s'⟩ := q
      rw [hx] at AY
      have HV := Lib.hid (show ((K kn slots ks).map fun (r : List It × Nat) => ((.mk 3 s nu 0 0 r.1 : It), r.2)) = some (.mk 3 s nu 0 0 its, s') by rw [hx]; rfl)
      clear hx
      have p0 : (w0.drew).cell? ⟨w.heap.size, 0, none⟩ = some (.int .i64 3) := n0
      have p1 : (w0.drew).cell? ⟨w.heap.size, 1, none⟩ = some (.string s) := n1
      have p2 : (w0.drew).cell? ⟨w.heap.size, 2, none⟩ = some (.int .i64 nu) := n2
      have p3 : (w0.drew).cell? ⟨w.heap.size, 3, none⟩ = some (.slice ka ks.length kc) := n3
      go_upto_region 6 with fail
      go_region_held3 (fun w' => w'.cell? ⟨w.heap.size, 0, none⟩ = some (.int .i64 3) ∧ w'.cell? ⟨w.heap.size, 1, none⟩ = some (.string s) ∧ w'.cell? ⟨w.heap.size, 2, none⟩ = some (.int .i64 nu) ∧ w'.cell? ⟨w.heap.size, 3, none⟩ = some (.slice ka ks.length kc))
        (first | with_reducible exact ⟨p0, p1, p2, p3⟩ | with_reducible exact ⟨r0, r1, r2, r3⟩ | (refine ⟨?_, ?_, ?_, ?_⟩ <;> (repeat rw [World.cell?_setCell_far _ _ _ _ (by simp)]) <;> with_reducible assumption))
        (first
          | (go_at_call 13
             refine (AY.out _ ?_).mono ?_
             · exact (Below.refl _ _).drew
             rintro e w6 ⟨v6, rfl, hit, hr6, hk6, hb6⟩
             obtain ⟨a6, c6, rfl, -⟩ := id hit.shape
             have hk7 : Kt p w0 w6 := (Kt.of_below ((Below.refl _ _).drew) (by omega)).trans hk6
             have hb7 : Below B w0 w6 := (Below.refl B w0).drew.trans hb6
             have x5 := hk7.keep (HR.out.later HB0.out) HQ1.out (by decide) (by decide)
             have x6 := hk7.keep (HR.out.later HB0.out) HQ2.out (by decide) (by decide)
             have HZ := Lib.hid x6
             have r0 := cell_of_row w6 w.heap.size 0 _ _ _ x5
             have r1 := cell_of_row w6 w.heap.size 1 _ _ _ x5
             have r2 := cell_of_row w6 w.heap.size 2 _ _ _ x5
             have r3 := cell_of_row w6 w.heap.size 3 _ _ _ x5
             simp at r0 r1 r2 r3
             have y0 := cell_of_row w6 (w.heap.size + 1) 0 _ _ _ x6
             have y1 := cell_of_row w6 (w.heap.size + 1) 1 _ _ _ x6
             have y2 := cell_of_row w6 (w.heap.size + 1) 2 _ _ _ x6
             have y3 := cell_of_row w6 (w.heap.size + 1) 3 _ _ _ x6
             have y4 := cell_of_row w6 (w.heap.size + 1) 4 _ _ _ x6
             have y5 := cell_of_row w6 (w.heap.size + 1) 5 _ _ _ x6
             have yf : ∀ j, w6.frozen? ⟨w.heap.size + 1, j, none⟩ = false := (by intro j; unfold World.frozen?; rw [x6]; simp)
             simp at y0 y1 y2 y3 y4 y5
             have BD := Lib.hid (fun wF hg => box_done (Q := w.heap.size + 1) (wF := wF) HB0.out hpw hBw (by omega) (by omega) hk7 hb7 hr6 hit ⟨_, _, x6⟩ hg)
             clear hit hr6 hk6 hb6 x6 hk7 hb7 x5))
      clear p0 p1 p2 p3
      go_wp2_with fail
      refine bodyPost_ret (v := .agg #[.int .i64 (3), .string (s), .int .i64 (nu), .int .i64 (0), .int .i64 (0), (.slice a6 its.length c6)]) (results_cell_row Try.results28 _ _ (w.heap.size + 1) 73 #[.int .i64 (3), .string (s), .int .i64 (nu), .int .i64 (0), .int .i64 (0), (.slice a6 its.length c6)] (0, 0) _ rfl (heap_set6 HZ.out _ _ _ _ _ _) Try.underlying73 rfl (by kernel_rfl)) rfl ?_
      have BE := BD.out _ (grownBy_set6 w6 (w.heap.size + 1) (.int .i64 3) (.string s) (.int .i64 nu) (.int .i64 0) (.int .i64 0) (.slice a6 its.length c6))
      exact OnePost.yes HV.out rfl BE.1 trivial BE.2.1 BE.2.2.1 BE.2.2.2
  · obtain rfl : k = 4 := hkk
    show Calls Try.prog 28 #[.pointer (some ⟨p, 0, none⟩), .agg #[.int .i64 4, .string s, .int .i64 nu, .slice ka ks.length kc, .slice na ns.length nc, .int .i64 at_]] w fun e w' => OnePost B w p kn fv gv F G d ((K kn slots ks).map fun r => (.mk 4 s nu 0 0 r.1, r.2)) e w'
    have hb0 : Below w.heap.size w ((w.alloc (.cells #[.int .i64 4, .string s, .int .i64 nu, .slice ka ks.length kc, .slice na ns.length nc, .int .i64 at_] 30)).alloc (.cells #[.int .i64 0, .string ⟨#[]⟩, .int .i64 0, .int .i64 0, .int .i64 0, .slice none 0 0] 73)) := ((Below.refl _ _).alloc (Nat.le_refl _) _).alloc (by simp) _
    have hq1 : ((w.alloc (.cells #[.int .i64 4, .string s, .int .i64 nu, .slice ka ks.length kc, .slice na ns.length nc, .int .i64 at_] 30)).alloc (.cells #[.int .i64 0, .string ⟨#[]⟩, .int .i64 0, .int .i64 0, .int .i64 0, .slice none 0 0] 73)).heap[w.heap.size]? = some (.cells #[.int .i64 4, .string s, .int .i64 nu, .slice ka ks.length kc, .slice na ns.length nc, .int .i64 at_] 30 (0, 0)) := (heap_alloc_old _ _ _ (by simp)).trans (heap_alloc_new w _)
    have hq2 : ((w.alloc (.cells #[.int .i64 4, .string s, .int .i64 nu, .slice ka ks.length kc, .slice na ns.length nc, .int .i64 at_] 30)).alloc (.cells #[.int .i64 0, .string ⟨#[]⟩, .int .i64 0, .int .i64 0, .int .i64 0, .slice none 0 0] 73)).heap[w.heap.size + 1]? = some (.cells #[.int .i64 0, .string ⟨#[]⟩, .int .i64 0, .int .i64 0, .int .i64 0, .slice none 0 0] 73 (0, 0)) := heap_alloc2_new w _ _
    have hsz0 : ((w.alloc (.cells #[.int .i64 4, .string s, .int .i64 nu, .slice ka ks.length kc, .slice na ns.length nc, .int .i64 at_] 30)).alloc (.cells #[.int .i64 0, .string ⟨#[]⟩, .int .i64 0, .int .i64 0, .int .i64 0, .slice none 0 0] 73)).heap.size = w.heap.size + 2 := by simp
    go_enter Try.func28, Try.ntmps28
    go_upto_region 1 with fail
    generalize ((w.alloc (.cells #[.int .i64 4, .string s, .int .i64 nu, .slice ka ks.length kc, .slice na ns.length nc, .int .i64 at_] 30)).alloc (.cells #[.int .i64 0, .string ⟨#[]⟩, .int .i64 0, .int .i64 0, .int .i64 0, .slice none 0 0] 73)) = w0 at *
    have HB0 := Lib.hid hb0
    have HQ1 := Lib.hid hq1
    have HQ2 := Lib.hid hq2
    have n0 := cell_of_row w0 w.heap.size 0 _ _ _ hq1
    have n1 := cell_of_row w0 w.heap.size 1 _ _ _ hq1
    have n2 := cell_of_row w0 w.heap.size 2 _ _ _ hq1
    have n3 := cell_of_row w0 w.heap.size 3 _ _ _ hq1
    have n4 := cell_of_row w0 w.heap.size 4 _ _ _ hq1
    have n5 := cell_of_row w0 w.heap.size 5 _ _ _ hq1
    simp at n0 n1 n2 n3 n4 n5
    clear hb0 hq1 hq2
    have AY := Lib.hid (show ∀ W, Below w0.heap.size w0 W → Calls Try.prog 13 #[.pointer (some ⟨p, 0, none⟩), .slice ka ks.length kc] W fun e w' => AlPost B W p kn fv gv F G d (K kn slots ks) e w' from fun W hW => HKC.out _ kn slots W ((HR.out.later HB0.out).later hW) ((HKD.out.later HB0.out).later hW))
    have hn0 : w.heap.size < w0.heap.size := by omega
    clear HKC
    cases hx : K kn slots ks with
    | none => exact absurd hx hne
    | some q =>
      obtain ⟨its, s'⟩ := q
      rw [hx] at AY
      have HV := Lib.hid (show ((K kn slots ks).map fun (r : List It × Nat) => ((.mk 4 s nu 0 0 r.1 : It), r.2)) = some (.mk 4 s nu 0 0 its, s') by rw [hx]; rfl)
      clear hx
      have p0 : (w0.drew).cell? ⟨w.heap.size, 0, none⟩ = some (.int .i64 4) := n0
      have p1 : (w0.drew).cell? ⟨w.heap.size, 1, none⟩ = some (.string s) := n1
      have p2 : (w0.drew).cell? ⟨w.heap.size, 2, none⟩ = some (.int .i64 nu) := n2
      have p3 : (w0.drew).cell? ⟨w.heap.size, 3, none⟩ = some (.slice ka ks.length kc) := n3
      go_upto_region 6 with fail
      go_region_held3 (fun w' => w'.cell? ⟨w.heap.size, 0, none⟩ = some (.int .i64 4) ∧ w'.cell? ⟨w.heap.size, 1, none⟩ = some (.string s) ∧ w'.cell? ⟨w.heap.size, 2, none⟩ = some (.int .i64 nu) ∧ w'.cell? ⟨w.heap.size, 3, none⟩ = some (.slice ka ks.length kc))
        (first | with_reducible exact ⟨p0, p1, p2, p3⟩ | with_reducible exact ⟨r0, r1, r2, r3⟩ | (refine ⟨?_, ?_, ?_, ?_⟩ <;> (repeat rw [World.cell?_setCell_far _ _ _ _ (by simp)]) <;> with_reducible assumption))
        (first
          | (go_at_call 13
             refine (AY.out _ ?_).mono ?_
             · exact (Below.refl _ _).drew
             rintro e w6 ⟨v6, rfl, hit, hr6, hk6, hb6⟩
             obtain ⟨a6, c6, rfl, -⟩ := id hit.shape
             have hk7 : Kt p w0 w6 := (Kt.of_below ((Below.refl _ _).drew) (by omega)).trans hk6
             have hb7 : Below B w0 w6 := (Below.refl B w0).drew.trans hb6
             have x5 := hk7.keep (HR.out.later HB0.out) HQ1.out (by decide) (by decide)
             have x6 := hk7.keep (HR.out.later HB0.out) HQ2.out (by decide) (by decide)
             have HZ := Lib.hid x6
             have r0 := cell_of_row w6 w.heap.size 0 _ _ _ x5
             have r1 := cell_of_row w6 w.heap.size 1 _ _ _ x5
             have r2 := cell_of_row w6 w.heap.size 2 _ _ _ x5
             have r3 := cell_of_row w6 w.heap.size 3 _ _ _ x5
             simp at r0 r1 r2 r3
             have y0 := cell_of_row w6 (w.heap.size + 1) 0 _ _ _ x6
             have y1 := cell_of_row w6 (w.heap.size + 1) 1 _ _ _ x6
             have y2 := cell_of_row w6 (w.heap.size + 1) 2 _ _ _ x6
             have y3 := cell_of_row w6 (w.heap.size + 1) 3 _ _ _ x6
             have y4 := cell_of_row w6 (w.heap.size + 1) 4 _ _ _ x6
             have y5 := cell_of_row w6 (w.heap.size + 1) 5 _ _ _ x6
             have yf : ∀ j, w6.frozen? ⟨w.heap.size + 1, j, none⟩ = false := (by intro j; unfold World.frozen?; rw [x6]; simp)
             simp at y0 y1 y2 y3 y4 y5
             have BD := Lib.hid (fun wF hg => box_done (Q := w.heap.size + 1) (wF := wF) HB0.out hpw hBw (by omega) (by omega) hk7 hb7 hr6 hit ⟨_, _, x6⟩ hg)
             clear hit hr6 hk6 hb6 x6 hk7 hb7 x5))
      clear p0 p1 p2 p3
      go_wp2_with fail
      refine bodyPost_ret (v := .agg #[.int .i64 (4), .string (s), .int .i64 (nu), .int .i64 (0), .int .i64 (0), (.slice a6 its.length c6)]) (results_cell_row Try.results28 _ _ (w.heap.size + 1) 73 #[.int .i64 (4), .string (s), .int .i64 (nu), .int .i64 (0), .int .i64 (0), (.slice a6 its.length c6)] (0, 0) _ rfl (heap_set6 HZ.out _ _ _ _ _ _) Try.underlying73 rfl (by kernel_rfl)) rfl ?_
      have BE := BD.out _ (grownBy_set6 w6 (w.heap.size + 1) (.int .i64 4) (.string s) (.int .i64 nu) (.int .i64 0) (.int .i64 0) (.slice a6 its.length c6))
      exact OnePost.yes HV.out rfl BE.1 trivial BE.2.1 BE.2.2.1 BE.2.2.2
set_option maxRecDepth 100000 in
set_option maxHeartbeats 8000000 in
theorem item_ret (B : Nat) (p : Nat) (kn : List Kn) (slots : Nat) (fv gv : Value) (F G : List ByteArray) (d : Nat) (K : Kfn) (n : Nd) (kv nv : Value) (w : World) (h : RsAt B w p kn slots fv gv F G) (hk : NodesX (· < B) d w kv n.kids) (hs : StrsX (· < B) w nv n.names) (ho : NdOk n) (hkc : KC B p fv gv F G d K n.kids) (hkk : n.kind = 10) :
    Calls Try.prog 28 #[.pointer (some ⟨p, 0, none⟩), ndV n kv nv] w fun e w' => OnePost B w p kn fv gv F G d ((K kn slots n.kids).map fun r => (.mk 18 noName 0 0 0 r.1, r.2)) e w' := by
  obtain ⟨k, s, nu, ks, ns, at_⟩ := n
  replace hk : NodesX (· < B) d w kv ks := hk
  replace hs : StrsX (· < B) w nv ns := hs
  obtain ⟨ka, kc, rfl, -⟩ := id hk.shape
  obtain ⟨na, nc, rfl, -⟩ := id hs
  have hpw := h.get.1
  have hBw : B ≤ w.heap.size := by have := h.pB; omega
  have HR := Lib.hid h
  have HKD := Lib.hid hk
  have HNS := Lib.hid hs
  have HKC := Lib.hid (show KC B p fv gv F G d K ks from hkc)
  clear hkc h hk hs ho
  obtain rfl : k = 10 := hkk
  show Calls Try.prog 28 #[.pointer (some ⟨p, 0, none⟩), .agg #[.int .i64 10, .string s, .int .i64 nu, .slice ka ks.length kc, .slice na ns.length nc, .int .i64 at_]] w fun e w' => OnePost B w p kn fv gv F G d ((K kn slots ks).map fun r => (.mk 18 noName 0 0 0 r.1, r.2)) e w'
  have hb0 : Below w.heap.size w ((w.alloc (.cells #[.int .i64 10, .string s, .int .i64 nu, .slice ka ks.length kc, .slice na ns.length nc, .int .i64 at_] 30)).alloc (.cells #[.int .i64 0, .string ⟨#[]⟩, .int .i64 0, .int .i64 0, .int .i64 0, .slice none 0 0] 73)) := ((Below.refl _ _).alloc (Nat.le_refl _) _).alloc (by simp) _
  have hq1 : ((w.alloc (.cells #[.int .i64 10, .string s, .int .i64 nu, .slice ka ks.length kc, .slice na ns.length nc, .int .i64 at_] 30)).alloc (.cells #[.int .i64 0, .string ⟨#[]⟩, .int .i64 0, .int .i64 0, .int .i64 0, .slice none 0 0] 73)).heap[w.heap.size]? = some (.cells #[.int .i64 10, .string s, .int .i64 nu, .slice ka ks.length kc, .slice na ns.length nc, .int .i64 at_] 30 (0, 0)) := (heap_alloc_old _ _ _ (by simp)).trans (heap_alloc_new w _)
  have hq2 : ((w.alloc (.cells #[.int .i64 10, .string s, .int .i64 nu, .slice ka ks.length kc, .slice na ns.length nc, .int .i64 at_] 30)).alloc (.cells #[.int .i64 0, .string ⟨#[]⟩, .int .i64 0, .int .i64 0, .int .i64 0, .slice none 0 0] 73)).heap[w.heap.size + 1]? = some (.cells #[.int .i64 0, .string ⟨#[]⟩, .int .i64 0, .int .i64 0, .int .i64 0, .slice none 0 0] 73 (0, 0)) := heap_alloc2_new w _ _
  have hsz0 : ((w.alloc (.cells #[.int .i64 10, .string s, .int .i64 nu, .slice ka ks.length kc, .slice na ns.length nc, .int .i64 at_] 30)).alloc (.cells #[.int .i64 0, .string ⟨#[]⟩, .int .i64 0, .int .i64 0, .int .i64 0, .slice none 0 0] 73)).heap.size = w.heap.size + 2 := by simp
  go_enter Try.func28, Try.ntmps28
  go_upto_region 1 with fail
  generalize ((w.alloc (.cells #[.int .i64 10, .string s, .int .i64 nu, .slice ka ks.length kc, .slice na ns.length nc, .int .i64 at_] 30)).alloc (.cells #[.int .i64 0, .string ⟨#[]⟩, .int .i64 0, .int .i64 0, .int .i64 0, .slice none 0 0] 73)) = w0 at *
  have HB0 := Lib.hid hb0
  have HQ1 := Lib.hid hq1
  have HQ2 := Lib.hid hq2
  have n0 := cell_of_row w0 w.heap.size 0 _ _ _ hq1
  have n1 := cell_of_row w0 w.heap.size 1 _ _ _ hq1
  have n2 := cell_of_row w0 w.heap.size 2 _ _ _ hq1
  have n3 := cell_of_row w0 w.heap.size 3 _ _ _ hq1
  have n4 := cell_of_row w0 w.heap.size 4 _ _ _ hq1
  have n5 := cell_of_row w0 w.heap.size 5 _ _ _ hq1
  simp at n0 n1 n2 n3 n4 n5
  clear hb0 hq1 hq2
  have AY := Lib.hid (show ∀ W, Below w0.heap.size w0 W → Calls Try.prog 13 #[.pointer (some ⟨p, 0, none⟩), .slice ka ks.length kc] W fun e w' => AlPost B W p kn fv gv F G d (K kn slots ks) e w' from fun W hW => HKC.out _ kn slots W ((HR.out.later HB0.out).later hW) ((HKD.out.later HB0.out).later hW))
  have hn0 : w.heap.size < w0.heap.size := by omega
  clear HKC
  cases hx : K kn slots ks with
  | none =>
    rw [hx] at AY
    have HV := Lib.hid (show ((K kn slots ks).map fun (r : List It × Nat) => ((.mk 18 noName 0 0 0 r.1 : It), r.2)) = none by rw [hx]; rfl)
    clear hx
    go_wp2_with fail
    refine (AY.out _ (Below.refl _ _)).mono ?_
    rintro e w6 ⟨⟨at6, e', hne, rfl⟩, h6⟩
    have H6 := Lib.hid ((below_down HB0.out hBw).trans h6)
    clear h6
    go_wp2_with fail
    exact ⟨rfl, OnePost.no HV.out ⟨e', hne, rfl⟩ H6.out⟩
  | some q =>
    obtain ⟨its, s'⟩ := q
    rw [hx] at AY
    have HV := Lib.hid (show ((K kn slots ks).map fun (r : List It × Nat) => ((.mk 18 noName 0 0 0 r.1 : It), r.2)) = some (.mk 18 noName 0 0 0 its, s') by rw [hx]; rfl)
    clear hx
    go_wp2_with fail
    refine (AY.out _ (Below.refl _ _)).mono ?_
    rintro e w6 ⟨v6, rfl, hit, hr6, hk6, hb6⟩
    obtain ⟨a6, c6, rfl, -⟩ := id hit.shape
    have x6 := hk6.keep (HR.out.later HB0.out) HQ2.out (by decide) (by decide)
    have HZ := Lib.hid x6
    have y0 := cell_of_row w6 (w.heap.size + 1) 0 _ _ _ x6
    have y1 := cell_of_row w6 (w.heap.size + 1) 1 _ _ _ x6
    have y2 := cell_of_row w6 (w.heap.size + 1) 2 _ _ _ x6
    have y3 := cell_of_row w6 (w.heap.size + 1) 3 _ _ _ x6
    have y4 := cell_of_row w6 (w.heap.size + 1) 4 _ _ _ x6
    have y5 := cell_of_row w6 (w.heap.size + 1) 5 _ _ _ x6
    have yf : ∀ j, w6.frozen? ⟨w.heap.size + 1, j, none⟩ = false := (by intro j; unfold World.frozen?; rw [x6]; simp)
    simp at y0 y1 y2 y3 y4 y5
    have BD := Lib.hid (fun wF hg => box_done (Q := w.heap.size + 1) (wF := wF) HB0.out hpw hBw (by omega) (by omega) hk6 hb6 hr6 hit ⟨_, _, x6⟩ hg)
    clear hit hr6 hk6 hb6 x6
    go_wp2_with fail
    refine bodyPost_ret (v := .agg #[.int .i64 (18), .string (noName), .int .i64 (0), .int .i64 (0), .int .i64 (0), (.slice a6 its.length c6)]) (results_cell_row Try.results28 _ _ (w.heap.size + 1) 73 #[.int .i64 (18), .string (noName), .int .i64 (0), .int .i64 (0), .int .i64 (0), (.slice a6 its.length c6)] (0, 0) _ rfl (heap_set6 HZ.out _ _ _ _ _ _) Try.underlying73 rfl (by kernel_rfl)) rfl ?_
    have BE := BD.out _ (grownBy_set6 w6 (w.heap.size + 1) (.int .i64 18) (.string noName) (.int .i64 0) (.int .i64 0) (.int .i64 0) (.slice a6 its.length c6))
    exact OnePost.yes HV.out rfl BE.1 trivial BE.2.1 BE.2.2.1 BE.2.2.2
theorem variable_kids (F G : List ByteArray) (kn : List Kn) (s : ByteArray) (i : It) (h : variableM F G kn s = some i) : i.kids = [] := by
  unfold variableM at h
  split at h
  · injection h with h; subst h; rfl
  · split at h
    · injection h with h; subst h; rfl
    · split at h
      · injection h with h; subst h; rfl
      · split at h
        · cases h
        · split at h
          · injection h with h; subst h; rfl
          · cases h
set_option maxRecDepth 100000 in
set_option maxHeartbeats 8000000 in
theorem item_var (B : Nat) (p : Nat) (kn : List Kn) (slots : Nat) (fv gv : Value) (F G : List ByteArray) (d : Nat) (K : Kfn) (n : Nd) (kv nv : Value) (w : World) (h : RsAt B w p kn slots fv gv F G) (hk : NodesX (· < B) d w kv n.kids) (hs : StrsX (· < B) w nv n.names) (ho : NdOk n) (hkc : KC B p fv gv F G d K n.kids) (hkk : n.kind = 5) :
    Calls Try.prog 28 #[.pointer (some ⟨p, 0, none⟩), ndV n kv nv] w fun e w' => OnePost B w p kn fv gv F G d ((variableM F G kn n.name).map fun i => (i, slots)) e w' := by
  obtain ⟨k, s, nu, ks, ns, at_⟩ := n
  replace hk : NodesX (· < B) d w kv ks := hk
  replace hs : StrsX (· < B) w nv ns := hs
  obtain ⟨ka, kc, rfl, -⟩ := id hk.shape
  obtain ⟨na, nc, rfl, -⟩ := id hs
  have hpw := h.get.1
  have hBw : B ≤ w.heap.size := by have := h.pB; omega
  have HR := Lib.hid h
  have HKD := Lib.hid hk
  have HNS := Lib.hid hs
  have hsz : s.size ≤ maxLen := ho.2.2.2
  have CX := Lib.hid (fun W (hW : Below w.heap.size w W) => variable_any B p kn slots fv gv F G (.mk k s nu ks ns at_) (.slice ka ks.length kc) (.slice na ns.length nc) W (h.later hW) hsz)
  clear hkc h hk hs ho
  obtain rfl : k = 5 := hkk
  show Calls Try.prog 28 #[.pointer (some ⟨p, 0, none⟩), .agg #[.int .i64 5, .string s, .int .i64 nu, .slice ka ks.length kc, .slice na ns.length nc, .int .i64 at_]] w fun e w' => OnePost B w p kn fv gv F G d ((variableM F G kn s).map fun i => (i, slots)) e w'
  replace CX : Hid (∀ W, Below w.heap.size w W → Calls Try.prog 46 #[.pointer (some ⟨p, 0, none⟩), .agg #[.int .i64 5, .string s, .int .i64 nu, .slice ka ks.length kc, .slice na ns.length nc, .int .i64 at_]] W fun e w' => VarPost at_ (variableM F G kn s) e ∧ Below W.heap.size W w') := CX
  have HNIL : ∀ i, variableM F G kn s = some i → i.kids = [] := variable_kids F G kn s
  have hb0 : Below w.heap.size w ((w.alloc (.cells #[.int .i64 5, .string s, .int .i64 nu, .slice ka ks.length kc, .slice na ns.length nc, .int .i64 at_] 30)).alloc (.cells #[.int .i64 0, .string ⟨#[]⟩, .int .i64 0, .int .i64 0, .int .i64 0, .slice none 0 0] 73)) := ((Below.refl _ _).alloc (Nat.le_refl _) _).alloc (by simp) _
  have hq1 : ((w.alloc (.cells #[.int .i64 5, .string s, .int .i64 nu, .slice ka ks.length kc, .slice na ns.length nc, .int .i64 at_] 30)).alloc (.cells #[.int .i64 0, .string ⟨#[]⟩, .int .i64 0, .int .i64 0, .int .i64 0, .slice none 0 0] 73)).heap[w.heap.size]? = some (.cells #[.int .i64 5, .string s, .int .i64 nu, .slice ka ks.length kc, .slice na ns.length nc, .int .i64 at_] 30 (0, 0)) := (heap_alloc_old _ _ _ (by simp)).trans (heap_alloc_new w _)
  have hq2 : ((w.alloc (.cells #[.int .i64 5, .string s, .int .i64 nu, .slice ka ks.length kc, .slice na ns.length nc, .int .i64 at_] 30)).alloc (.cells #[.int .i64 0, .string ⟨#[]⟩, .int .i64 0, .int .i64 0, .int .i64 0, .slice none 0 0] 73)).heap[w.heap.size + 1]? = some (.cells #[.int .i64 0, .string ⟨#[]⟩, .int .i64 0, .int .i64 0, .int .i64 0, .slice none 0 0] 73 (0, 0)) := heap_alloc2_new w _ _
  have hsz0 : ((w.alloc (.cells #[.int .i64 5, .string s, .int .i64 nu, .slice ka ks.length kc, .slice na ns.length nc, .int .i64 at_] 30)).alloc (.cells #[.int .i64 0, .string ⟨#[]⟩, .int .i64 0, .int .i64 0, .int .i64 0, .slice none 0 0] 73)).heap.size = w.heap.size + 2 := by simp
  go_enter Try.func28, Try.ntmps28
  go_upto_region 1 with fail
  generalize ((w.alloc (.cells #[.int .i64 5, .string s, .int .i64 nu, .slice ka ks.length kc, .slice na ns.length nc, .int .i64 at_] 30)).alloc (.cells #[.int .i64 0, .string ⟨#[]⟩, .int .i64 0, .int .i64 0, .int .i64 0, .slice none 0 0] 73)) = w0 at *
  have HB0 := Lib.hid hb0
  have HQ1 := Lib.hid hq1
  have HQ2 := Lib.hid hq2
  have n0 := cell_of_row w0 w.heap.size 0 _ _ _ hq1
  have n1 := cell_of_row w0 w.heap.size 1 _ _ _ hq1
  have n2 := cell_of_row w0 w.heap.size 2 _ _ _ hq1
  have n3 := cell_of_row w0 w.heap.size 3 _ _ _ hq1
  have n4 := cell_of_row w0 w.heap.size 4 _ _ _ hq1
  have n5 := cell_of_row w0 w.heap.size 5 _ _ _ hq1
  simp at n0 n1 n2 n3 n4 n5
  clear hb0 hq1 hq2
  have CY := Lib.hid (CX.out w0 HB0.out)
  clear CX
  cases hr : variableM F G kn s with
  | none =>
    rw [hr] at CY
    have HV := Lib.hid (show ((variableM F G kn s).map fun i => (i, slots)) = none by rw [hr]; rfl)
    clear hr HNIL
    go_wp2_with fail
    refine CY.out.mono ?_
    rintro e w6 ⟨⟨e', hne, rfl⟩, h6⟩
    have H6 := Lib.hid (below_down (HB0.out.trans (h6.mono HB0.out.size)) hBw)
    clear h6
    go_wp2_with fail
    exact ⟨rfl, OnePost.no HV.out ⟨e', hne, rfl⟩ H6.out⟩
  | some it =>
    rw [hr] at CY
    have HV := Lib.hid (show ((variableM F G kn s).map fun i => (i, slots)) = some (it, slots) by rw [hr]; rfl)
    have HE := Lib.hid (HNIL it hr)
    clear hr HNIL
    go_wp2_with fail
    refine CY.out.mono ?_
    rintro e w6 ⟨he, h6⟩
    change e = .returned (itV it (.slice none 0 0)) at he
    subst he
    have x6 := (h6.block (w.heap.size + 1) (by omega)).trans HQ2.out
    have HZ := Lib.hid x6
    have y0 := cell_of_row w6 (w.heap.size + 1) 0 _ _ _ x6
    have y1 := cell_of_row w6 (w.heap.size + 1) 1 _ _ _ x6
    have y2 := cell_of_row w6 (w.heap.size + 1) 2 _ _ _ x6
    have y3 := cell_of_row w6 (w.heap.size + 1) 3 _ _ _ x6
    have y4 := cell_of_row w6 (w.heap.size + 1) 4 _ _ _ x6
    have y5 := cell_of_row w6 (w.heap.size + 1) 5 _ _ _ x6
    have yf : ∀ j, w6.frozen? ⟨w.heap.size + 1, j, none⟩ = false := (by intro j; unfold World.frozen?; rw [x6]; simp)
    simp at y0 y1 y2 y3 y4 y5
    have BD := Lib.hid (fun wF hg => box_done (Q := w.heap.size + 1) (wF := wF) (kv := .slice none 0 0) (l := it.kids) (d := d) HB0.out hpw hBw (by omega) (by omega) (Kt.of_below h6 (by omega)) (below_down h6 (by omega)) ((HR.out.later HB0.out).later h6) (by rw [HE.out]; exact its_nil _ _ _ _) ⟨_, _, x6⟩ hg)
    clear h6 x6
    simp only [itV]
    go_wp2_with fail
    refine bodyPost_ret (v := .agg #[.int .i64 (it.kind), .string (it.name), .int .i64 (it.num), .int .i64 (it.slot), .int .i64 (it.width), (.slice none 0 0)]) (results_cell_row Try.results28 _ _ (w.heap.size + 1) 73 #[.int .i64 (it.kind), .string (it.name), .int .i64 (it.num), .int .i64 (it.slot), .int .i64 (it.width), (.slice none 0 0)] (0, 0) _ rfl (heap_set6 HZ.out _ _ _ _ _ _) Try.underlying73 rfl (by kernel_rfl)) rfl ?_
    have BE := BD.out _ (grownBy_set6 w6 (w.heap.size + 1) (.int .i64 it.kind) (.string it.name) (.int .i64 it.num) (.int .i64 it.slot) (.int .i64 it.width) (.slice none 0 0))
    exact OnePost.yes HV.out rfl BE.1 trivial BE.2.1 BE.2.2.1 BE.2.2.2
set_option maxRecDepth 100000 in
set_option maxHeartbeats 8000000 in
theorem item_none (B : Nat) (p : Nat) (kn : List Kn) (slots : Nat) (fv gv : Value) (F G : List ByteArray) (d : Nat) (K : Kfn) (n : Nd) (kv nv : Value) (w : World) (h : RsAt B w p kn slots fv gv F G) (hk : NodesX (· < B) d w kv n.kids) (hs : StrsX (· < B) w nv n.names) (ho : NdOk n) (hkc : KC B p fv gv F G d K n.kids) (hkk : ¬ (1 ≤ n.kind ∧ n.kind ≤ 10)) :
    Calls Try.prog 28 #[.pointer (some ⟨p, 0, none⟩), ndV n kv nv] w fun e w' => OnePost B w p kn fv gv F G d (some (.mk 19 noName 0 0 0 [], slots)) e w' := by
  obtain ⟨k, s, nu, ks, ns, at_⟩ := n
  replace hk : NodesX (· < B) d w kv ks := hk
  replace hs : StrsX (· < B) w nv ns := hs
  obtain ⟨ka, kc, rfl, -⟩ := id hk.shape
  obtain ⟨na, nc, rfl, -⟩ := id hs
  have hpw := h.get.1
  have hBw : B ≤ w.heap.size := by have := h.pB; omega
  have HR := Lib.hid h
  have HKD := Lib.hid hk
  have HNS := Lib.hid hs
  clear hkc h hk hs ho
  replace hkk : ¬ (1 ≤ k ∧ k ≤ 10) := hkk
  have e1 : (k == 1) = false := by simp; omega
  have e2 : (k == 2) = false := by simp; omega
  have e3 : (k == 3) = false := by simp; omega
  have e4 : (k == 4) = false := by simp; omega
  have e5 : (k == 5) = false := by simp; omega
  have e6 : (k == 6) = false := by simp; omega
  have e7 : (k == 7) = false := by simp; omega
  have e8 : (k == 8) = false := by simp; omega
  have e9 : (k == 9) = false := by simp; omega
  have e10 : (k == 10) = false := by simp; omega
  clear hkk
  show Calls Try.prog 28 #[.pointer (some ⟨p, 0, none⟩), .agg #[.int .i64 k, .string s, .int .i64 nu, .slice ka ks.length kc, .slice na ns.length nc, .int .i64 at_]] w fun e w' => OnePost B w p kn fv gv F G d (some (.mk 19 noName 0 0 0 [], slots)) e w'
  have hb0 : Below w.heap.size w ((w.alloc (.cells #[.int .i64 k, .string s, .int .i64 nu, .slice ka ks.length kc, .slice na ns.length nc, .int .i64 at_] 30)).alloc (.cells #[.int .i64 0, .string ⟨#[]⟩, .int .i64 0, .int .i64 0, .int .i64 0, .slice none 0 0] 73)) := ((Below.refl _ _).alloc (Nat.le_refl _) _).alloc (by simp) _
  have hq1 : ((w.alloc (.cells #[.int .i64 k, .string s, .int .i64 nu, .slice ka ks.length kc, .slice na ns.length nc, .int .i64 at_] 30)).alloc (.cells #[.int .i64 0, .string ⟨#[]⟩, .int .i64 0, .int .i64 0, .int .i64 0, .slice none 0 0] 73)).heap[w.heap.size]? = some (.cells #[.int .i64 k, .string s, .int .i64 nu, .slice ka ks.length kc, .slice na ns.length nc, .int .i64 at_] 30 (0, 0)) := (heap_alloc_old _ _ _ (by simp)).trans (heap_alloc_new w _)
  have hq2 : ((w.alloc (.cells #[.int .i64 k, .string s, .int .i64 nu, .slice ka ks.length kc, .slice na ns.length nc, .int .i64 at_] 30)).alloc (.cells #[.int .i64 0, .string ⟨#[]⟩, .int .i64 0, .int .i64 0, .int .i64 0, .slice none 0 0] 73)).heap[w.heap.size + 1]? = some (.cells #[.int .i64 0, .string ⟨#[]⟩, .int .i64 0, .int .i64 0, .int .i64 0, .slice none 0 0] 73 (0, 0)) := heap_alloc2_new w _ _
  have hsz0 : ((w.alloc (.cells #[.int .i64 k, .string s, .int .i64 nu, .slice ka ks.length kc, .slice na ns.length nc, .int .i64 at_] 30)).alloc (.cells #[.int .i64 0, .string ⟨#[]⟩, .int .i64 0, .int .i64 0, .int .i64 0, .slice none 0 0] 73)).heap.size = w.heap.size + 2 := by simp
  go_enter Try.func28, Try.ntmps28
  go_upto_region 1 with fail
  generalize ((w.alloc (.cells #[.int .i64 k, .string s, .int .i64 nu, .slice ka ks.length kc, .slice na ns.length nc, .int .i64 at_] 30)).alloc (.cells #[.int .i64 0, .string ⟨#[]⟩, .int .i64 0, .int .i64 0, .int .i64 0, .slice none 0 0] 73)) = w0 at *
  have HB0 := Lib.hid hb0
  have HQ1 := Lib.hid hq1
  have HQ2 := Lib.hid hq2
  have n0 := cell_of_row w0 w.heap.size 0 _ _ _ hq1
  have n1 := cell_of_row w0 w.heap.size 1 _ _ _ hq1
  have n2 := cell_of_row w0 w.heap.size 2 _ _ _ hq1
  have n3 := cell_of_row w0 w.heap.size 3 _ _ _ hq1
  have n4 := cell_of_row w0 w.heap.size 4 _ _ _ hq1
  have n5 := cell_of_row w0 w.heap.size 5 _ _ _ hq1
  simp at n0 n1 n2 n3 n4 n5
  clear hb0 hq1 hq2
  have x6 := HQ2.out
  have HZ := HQ2
  have y0 := cell_of_row w0 (w.heap.size + 1) 0 _ _ _ x6
  have y1 := cell_of_row w0 (w.heap.size + 1) 1 _ _ _ x6
  have y2 := cell_of_row w0 (w.heap.size + 1) 2 _ _ _ x6
  have y3 := cell_of_row w0 (w.heap.size + 1) 3 _ _ _ x6
  have y4 := cell_of_row w0 (w.heap.size + 1) 4 _ _ _ x6
  have y5 := cell_of_row w0 (w.heap.size + 1) 5 _ _ _ x6
  have yf : ∀ j, w0.frozen? ⟨w.heap.size + 1, j, none⟩ = false := (by intro j; unfold World.frozen?; rw [x6]; simp)
  simp at y0 y1 y2 y3 y4 y5
  have BD := Lib.hid (fun wF hg => box_done (Q := w.heap.size + 1) (wF := wF) (kv := .slice none 0 0) (l := []) (d := d) HB0.out hpw hBw (by omega) (by omega) (Kt.refl p w0) (Below.refl _ _) (HR.out.later HB0.out) (its_nil _ _ _ _) ⟨_, _, x6⟩ hg)
  clear x6
  go_wp2_with fail
  refine bodyPost_ret (v := .agg #[.int .i64 (19), .string (noName), .int .i64 (0), .int .i64 (0), .int .i64 (0), (.slice none 0 0)]) (results_cell_row Try.results28 _ _ (w.heap.size + 1) 73 #[.int .i64 (19), .string (noName), .int .i64 (0), .int .i64 (0), .int .i64 (0), (.slice none 0 0)] (0, 0) _ rfl (heap_set6 HZ.out _ _ _ _ _ _) Try.underlying73 rfl (by kernel_rfl)) rfl ?_
  have BE := BD.out _ (grownBy_set6 w0 (w.heap.size + 1) (.int .i64 19) (.string noName) (.int .i64 0) (.int .i64 0) (.int .i64 0) (.slice none 0 0))
  exact OnePost.yes rfl rfl BE.1 trivial BE.2.1 BE.2.2.1 BE.2.2.2
end Go.Proofs.Ytpfgidhchjcomaa
