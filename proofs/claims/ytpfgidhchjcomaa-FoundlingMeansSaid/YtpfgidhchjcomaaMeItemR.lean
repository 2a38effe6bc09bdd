/- One node is resolved. -/
import Derived.Test.YtpfgidhchjcomaaMeSuper
namespace Go.Proofs.Ytpfgidhchjcomaa
open Go.RowKit
set_option linter.unusedVariables false
/-- all nodes of a row are resolved as K says, whatever is known -/
def KC (B p : Nat) (fv gv : Value) (F G : List ByteArray) (d : Nat) (K : Kfn) (l : List Nd) : Prop :=
  ∀ (v : Value) (kn : List Kn) (s : Nat) (W : World), RsAt B W p kn s fv gv F G → NodesX (· < B) d W v l → Calls Try.prog 13 #[.pointer (some ⟨p, 0, none⟩), v] W fun e w' => AlPost B W p kn fv gv F G d (K kn s l) e w'
theorem grownBy_set (w : World) (g o : Nat) (v : Value) : w.grownBy (w.setCell ⟨g, o, none⟩ v) (some g) := ⟨rfl, rfl, rfl, by simp, fun k _ h => heap_set_far fun e => h (by rw [e])⟩
theorem grownBy_two {w w1 w2 : World} {r : Option Nat} (h : w.grownBy w1 r) (h' : w1.grownBy w2 r) : w.grownBy w2 r := ⟨h'.1.trans h.1, h'.2.trans h.2, h'.3.trans h.3, Nat.le_trans h.4 h'.4, fun k hk hne => (h'.5 k (Nat.lt_of_lt_of_le hk h.4) hne).trans (h.5 k hk hne)⟩
theorem grownBy_set6 (w : World) (g : Nat) (v0 v1 v2 v3 v4 v5 : Value) : w.grownBy ((((((w.setCell ⟨g, 0, none⟩ v0).setCell ⟨g, 1, none⟩ v1).setCell ⟨g, 2, none⟩ v2).setCell ⟨g, 3, none⟩ v3).setCell ⟨g, 4, none⟩ v4).setCell ⟨g, 5, none⟩ v5) (some g) :=
  grownBy_two (grownBy_two (grownBy_two (grownBy_two (grownBy_two (grownBy_set _ _ _ _) (grownBy_set _ _ _ _)) (grownBy_set _ _ _ _)) (grownBy_set _ _ _ _)) (grownBy_set _ _ _ _)) (grownBy_set _ _ _ _)
/-- behind a call within: the answer is laid in a box of the call's own -/
theorem box_done {B p Q : Nat} {w W w5 wF : World} {kn : List Kn} {s : Nat} {fv gv kv : Value} {F G : List ByteArray} {d : Nat} {l : List It} (hW : Below w.heap.size w W) (hpw : p < w.heap.size) (hBw : B ≤ w.heap.size) (hQ : w.heap.size ≤ Q) (hQW : Q < W.heap.size) (hk : Kt p W w5) (hb : Below B W w5) (hr : RsAt B w5 p kn s fv gv F G)
    (hi : ItsX 73 (fun b => W.heap.size ≤ b) d w5 kv l) (hz : TyAt 73 w5 Q) (hg : w5.grownBy wF (some Q)) :
    ItsX 73 (fun b => w.heap.size ≤ b) d wF kv l ∧ RsAt B wF p kn s fv gv F G ∧ Kt p w wF ∧ Below B w wF := by
  have hs := hW.size
  have hs5 := hk.size
  refine ⟨(hi.keep fun k hk' hx _ => hg.block k hk' fun e => by injection e with e; omega).weak fun b hb => by omega, hr.grown hg fun g hg' => ?_, Kt.grown_new ((Kt.of_below hW hpw).trans hk) hg (fun g hg' => ?_) hpw, ?_⟩
  · injection hg' with e
    subst e
    exact ⟨by omega, hz⟩
  · injection hg' with e
    omega
  · exact ((below_down hW hBw).trans hb).grown hg (by omega) fun g hg' => by injection hg' with e; omega
set_option maxRecDepth 100000 in
set_option maxHeartbeats 4000000 in
theorem item_sub (B : Nat) (p : Nat) (kn : List Kn) (slots : Nat) (fv gv : Value) (F G : List ByteArray) (d : Nat) (n : Nd) (kv nv : Value) (w : World) (h : RsAt B w p kn slots fv gv F G) (hk : NodesX (· < B) d w kv n.kids) (hs : StrsX (· < B) w nv n.names) (ho : NdOk n) (r : Option (It × Nat))
    (hc : (n.kind = 6 ∧ ∀ W, Below w.heap.size w W → Calls Try.prog 47 #[.pointer (some ⟨p, 0, none⟩), ndV n kv nv] W fun e w' => OnePost B W p kn fv gv F G d r e w') ∨ (n.kind = 7 ∧ ∀ W, Below w.heap.size w W → Calls Try.prog 48 #[.pointer (some ⟨p, 0, none⟩), ndV n kv nv, .bool true] W fun e w' => OnePost B W p kn fv gv F G d r e w') ∨ (n.kind = 8 ∧ ∀ W, Below w.heap.size w W → Calls Try.prog 49 #[.pointer (some ⟨p, 0, none⟩), ndV n kv nv] W fun e w' => OnePost B W p kn fv gv F G d r e w') ∨ (n.kind = 9 ∧ ∀ W, Below w.heap.size w W → Calls Try.prog 50 #[.pointer (some ⟨p, 0, none⟩), ndV n kv nv] W fun e w' => OnePost B W p kn fv gv F G d r e w')) :
    Calls Try.prog 28 #[.pointer (some ⟨p, 0, none⟩), ndV n kv nv] w fun e w' => OnePost B w p kn fv gv F G d r e w' := by
  obtain ⟨k, s, nu, ks, ns, at_⟩ := n
  replace hk : NodesX (· < B) d w kv ks := hk
  replace hs : StrsX (· < B) w nv ns := hs
  obtain ⟨ka, kc, rfl, -⟩ := id hk.shape
  obtain ⟨na, nc, rfl, -⟩ := id hs
  have hpw := h.get.1
  have hBw : B ≤ w.heap.size := by have := h.pB; omega
  have HR := Lib.hid h
  have HKD := Lib.hid hk
  have HNS := Lib.hid hs
  rcases hc with ⟨hkk, CX⟩ | ⟨hkk, CX⟩ | ⟨hkk, CX⟩ | ⟨hkk, CX⟩
  · obtain rfl : k = 6 := hkk
    show Calls Try.prog 28 #[.pointer (some ⟨p, 0, none⟩), .agg #[.int .i64 6, .string s, .int .i64 nu, .slice ka ks.length kc, .slice na ns.length nc, .int .i64 at_]] w _
    replace CX : ∀ W, Below w.heap.size w W → Calls Try.prog 47 #[.pointer (some ⟨p, 0, none⟩), .agg #[.int .i64 6, .string s, .int .i64 nu, .slice ka ks.length kc, .slice na ns.length nc, .int .i64 at_]] W fun e w' => OnePost B W p kn fv gv F G d r e w' := CX
    have HCX := Lib.hid CX
    clear CX h hk hs ho
    have hb0 : Below w.heap.size w ((w.alloc (.cells #[.int .i64 6, .string s, .int .i64 nu, .slice ka ks.length kc, .slice na ns.length nc, .int .i64 at_] 30)).alloc (.cells #[.int .i64 0, .string ⟨#[]⟩, .int .i64 0, .int .i64 0, .int .i64 0, .slice none 0 0] 73)) := ((Below.refl _ _).alloc (Nat.le_refl _) _).alloc (by simp) _
    have hq1 : ((w.alloc (.cells #[.int .i64 6, .string s, .int .i64 nu, .slice ka ks.length kc, .slice na ns.length nc, .int .i64 at_] 30)).alloc (.cells #[.int .i64 0, .string ⟨#[]⟩, .int .i64 0, .int .i64 0, .int .i64 0, .slice none 0 0] 73)).heap[w.heap.size]? = some (.cells #[.int .i64 6, .string s, .int .i64 nu, .slice ka ks.length kc, .slice na ns.length nc, .int .i64 at_] 30 (0, 0)) := (heap_alloc_old _ _ _ (by simp)).trans (heap_alloc_new w _)
    have hq2 : ((w.alloc (.cells #[.int .i64 6, .string s, .int .i64 nu, .slice ka ks.length kc, .slice na ns.length nc, .int .i64 at_] 30)).alloc (.cells #[.int .i64 0, .string ⟨#[]⟩, .int .i64 0, .int .i64 0, .int .i64 0, .slice none 0 0] 73)).heap[w.heap.size + 1]? = some (.cells #[.int .i64 0, .string ⟨#[]⟩, .int .i64 0, .int .i64 0, .int .i64 0, .slice none 0 0] 73 (0, 0)) := heap_alloc2_new w _ _
    have hsz0 : ((w.alloc (.cells #[.int .i64 6, .string s, .int .i64 nu, .slice ka ks.length kc, .slice na ns.length nc, .int .i64 at_] 30)).alloc (.cells #[.int .i64 0, .string ⟨#[]⟩, .int .i64 0, .int .i64 0, .int .i64 0, .slice none 0 0] 73)).heap.size = w.heap.size + 2 := by simp
    go_enter Try.func28, Try.ntmps28
    go_upto_region 1 with fail
    generalize ((w.alloc (.cells #[.int .i64 6, .string s, .int .i64 nu, .slice ka ks.length kc, .slice na ns.length nc, .int .i64 at_] 30)).alloc (.cells #[.int .i64 0, .string ⟨#[]⟩, .int .i64 0, .int .i64 0, .int .i64 0, .slice none 0 0] 73)) = w0 at *
    have HB0 := Lib.hid hb0
    have HQ1 := Lib.hid hq1
    have HQ2 := Lib.hid hq2
    have n0 := cell_of_row w0 w.heap.size 0 _ _ _ hq1
    have n1 := cell_of_row w0 w.heap.size 1 _ _ _ hq1
    have n2 := cell_of_row w0 w.heap.size 2 _ _ _ hq1
    have n3 := cell_of_row w0 w.heap.size 3 _ _ _ hq1
    have n4 := cell_of_row w0 w.heap.size 4 _ _ _ hq1
    have n5 := cell_of_row w0 w.heap.size 5 _ _ _ hq1
    simp at n0 n1 n2 n3 n4 n5
    clear hb0 hq1 hq2
    have CY := Lib.hid (HCX.out w0 HB0.out)
    clear HCX
    cases hr : r with
    | none =>
      rw [hr] at CY
      have HV := Lib.hid hr
      clear hr
      go_wp2_with fail
      refine CY.out.mono ?_
      rintro e w6 ⟨⟨at6, e', hne, rfl⟩, h6⟩
      have H6 := Lib.hid ((below_down HB0.out hBw).trans h6)
      clear h6
      go_wp2_with fail
      exact ⟨rfl, OnePost.no HV.out ⟨e', hne, rfl⟩ H6.out⟩
    | some q =>
      obtain ⟨it, s'⟩ := q
      rw [hr] at CY
      have HV := Lib.hid hr
      clear hr
      go_wp2_with fail
      refine CY.out.mono ?_
      rintro e w6 ⟨kv6, rfl, hit, hio, hr6, hk6, hb6⟩
      obtain ⟨a6, c6, rfl, -⟩ := id hit.shape
      have x6 := hk6.keep (HR.out.later HB0.out) HQ2.out (by decide) (by decide)
      have HZ := Lib.hid x6
      have y0 := cell_of_row w6 (w.heap.size + 1) 0 _ _ _ x6
      have y1 := cell_of_row w6 (w.heap.size + 1) 1 _ _ _ x6
      have y2 := cell_of_row w6 (w.heap.size + 1) 2 _ _ _ x6
      have y3 := cell_of_row w6 (w.heap.size + 1) 3 _ _ _ x6
      have y4 := cell_of_row w6 (w.heap.size + 1) 4 _ _ _ x6
      have y5 := cell_of_row w6 (w.heap.size + 1) 5 _ _ _ x6
      have yf : ∀ j, w6.frozen? ⟨w.heap.size + 1, j, none⟩ = false := (by intro j; unfold World.frozen?; rw [x6]; simp)
      simp at y0 y1 y2 y3 y4 y5
      have BD := Lib.hid (fun wF hg => box_done (Q := w.heap.size + 1) (wF := wF) HB0.out hpw hBw (by omega) (by omega) hk6 hb6 hr6 hit ⟨_, _, x6⟩ hg)
      clear hit hio hr6 hk6 hb6 x6
      simp only [itV]
      go_wp2_with fail
      refine bodyPost_ret (v := .agg #[.int .i64 (it.kind), .string (it.name), .int .i64 (it.num), .int .i64 (it.slot), .int .i64 (it.width), (.slice a6 it.kids.length c6)]) (results_cell_row Try.results28 _ _ (w.heap.size + 1) 73 #[.int .i64 (it.kind), .string (it.name), .int .i64 (it.num), .int .i64 (it.slot), .int .i64 (it.width), (.slice a6 it.kids.length c6)] (0, 0) _ rfl (heap_set6 HZ.out _ _ _ _ _ _) Try.underlying73 rfl (by kernel_rfl)) rfl ?_
      have BE := BD.out _ (grownBy_set6 w6 (w.heap.size + 1) (.int .i64 it.kind) (.string it.name) (.int .i64 it.num) (.int .i64 it.slot) (.int .i64 it.width) (.slice a6 it.kids.length c6))
      exact OnePost.yes HV.out rfl BE.1 trivial BE.2.1 BE.2.2.1 BE.2.2.2
  · obtain rfl : k = 7 := hkk
    show Calls Try.prog 28 #[.pointer (some ⟨p, 0, none⟩), .agg #[.int .i64 7, .string s, .int .i64 nu, .slice ka ks.length kc, .slice na ns.length nc, .int .i64 at_]] w _
    replace CX : ∀ W, Below w.heap.size w W → Calls Try.prog 48 #[.pointer (some ⟨p, 0, none⟩), .agg #[.int .i64 7, .string s, .int .i64 nu, .slice ka ks.length kc, .slice na ns.length nc, .int .i64 at_], .bool true] W fun e w' => OnePost B W p kn fv gv F G d r e w' := CX
    have HCX := Lib.hid CX
    clear CX h hk hs ho
    have hb0 : Below w.heap.size w ((w.alloc (.cells #[.int .i64 7, .string s, .int .i64 nu, .slice ka ks.length kc, .slice na ns.length nc, .int .i64 at_] 30)).alloc (.cells #[.int .i64 0, .string ⟨#[]⟩, .int .i64 0, .int .i64 0, .int .i64 0, .slice none 0 0] 73)) := ((Below.refl _ _).alloc (Nat.le_refl _) _).alloc (by simp) _
    have hq1 : ((w.alloc (.cells #[.int .i64 7, .string s, .int .i64 nu, .slice ka ks.length kc, .slice na ns.length nc, .int .i64 at_] 30)).alloc (.cells #[.int .i64 0, .string ⟨#[]⟩, .int .i64 0, .int .i64 0, .int .i64 0, .slice none 0 0] 73)).heap[w.heap.size]? = some (.cells #[.int .i64 7, .string s, .int .i64 nu, .slice ka ks.length kc, .slice na ns.length nc, .int .i64 at_] 30 (0, 0)) := (heap_alloc_old _ _ _ (by simp)).trans (heap_alloc_new w _)
    have hq2 : ((w.alloc (.cells #[.int .i64 7, .string s, .int .i64 nu, .slice ka ks.length kc, .slice na ns.length nc, .int .i64 at_] 30)).alloc (.cells #[.int .i64 0, .string ⟨#[]⟩, .int .i64 0, .int .i64 0, .int .i64 0, .slice none 0 0] 73)).heap[w.heap.size + 1]? = some (.cells #[.int .i64 0, .string ⟨#[]⟩, .int .i64 0, .int .i64 0, .int .i64 0, .slice none 0 0] 73 (0, 0)) := heap_alloc2_new w _ _
    have hsz0 : ((w.alloc (.cells #[.int .i64 7, .string s, .int .i64 nu, .slice ka ks.length kc, .slice na ns.length nc, .int .i64 at_] 30)).alloc (.cells #[.int .i64 0, .string ⟨#[]⟩, .int .i64 0, .int .i64 0, .int .i64 0, .slice none 0 0] 73)).heap.size = w.heap.size + 2 := by simp
    go_enter Try.func28, Try.ntmps28
    go_upto_region 1 with fail
    generalize ((w.alloc (.cells #[.int .i64 7, .string s, .int .i64 nu, .slice ka ks.length kc, .slice na ns.length nc, .int .i64 at_] 30)).alloc (.cells #[.int .i64 0, .string ⟨#[]⟩, .int .i64 0, .int .i64 0, .int .i64 0, .slice none 0 0] 73)) = w0 at *
    have HB0 := Lib.hid hb0
    have HQ1 := Lib.hid hq1
    have HQ2 := Lib.hid hq2
    have n0 := cell_of_row w0 w.heap.size 0 _ _ _ hq1
    have n1 := cell_of_row w0 w.heap.size 1 _ _ _ hq1
    have n2 := cell_of_row w0 w.heap.size 2 _ _ _ hq1
    have n3 := cell_of_row w0 w.heap.size 3 _ _ _ hq1
    have n4 := cell_of_row w0 w.heap.size 4 _ _ _ hq1
    have n5 := cell_of_row w0 w.heap.size 5 _ _ _ hq1
    simp at n0 n1 n2 n3 n4 n5
    clear hb0 hq1 hq2
    have CY := Lib.hid (HCX.out w0 HB0.out)
    clear HCX
    cases hr : r with
    | none =>
      rw [hr] at CY
      have HV := Lib.hid hr
      clear hr
      go_wp2_with fail
      refine CY.out.mono ?_
      rintro e w6 ⟨⟨at6, e', hne, rfl⟩, h6⟩
      have H6 := Lib.hid ((below_down HB0.out hBw).trans h6)
      clear h6
      go_wp2_with fail
      exact ⟨rfl, OnePost.no HV.out ⟨e', hne, rfl⟩ H6.out⟩
    | some q =>
      obtain ⟨it, s'⟩ := q
      rw [hr] at CY
      have HV := Lib.hid hr
      clear hr
      go_wp2_with fail
      refine CY.out.mono ?_
      rintro e w6 ⟨kv6, rfl, hit, hio, hr6, hk6, hb6⟩
      obtain ⟨a6, c6, rfl, -⟩ := id hit.shape
      have x6 := hk6.keep (HR.out.later HB0.out) HQ2.out (by decide) (by decide)
      have HZ := Lib.hid x6
      have y0 := cell_of_row w6 (w.heap.size + 1) 0 _ _ _ x6
      have y1 := cell_of_row w6 (w.heap.size + 1) 1 _ _ _ x6
      have y2 := cell_of_row w6 (w.heap.size + 1) 2 _ _ _ x6
      have y3 := cell_of_row w6 (w.heap.size + 1) 3 _ _ _ x6
      have y4 := cell_of_row w6 (w.heap.size + 1) 4 _ _ _ x6
      have y5 := cell_of_row w6 (w.heap.size + 1) 5 _ _ _ x6
      have yf : ∀ j, w6.frozen? ⟨w.heap.size + 1, j, none⟩ = false := (by intro j; unfold World.frozen?; rw [x6]; simp)
      simp at y0 y1 y2 y3 y4 y5
      have BD := Lib.hid (fun wF hg => box_done (Q := w.heap.size + 1) (wF := wF) HB0.out hpw hBw (by omega) (by omega) hk6 hb6 hr6 hit ⟨_, _, x6⟩ hg)
      clear hit hio hr6 hk6 hb6 x6
      simp only [itV]
      go_wp2_with fail
      refine bodyPost_ret (v := .agg #[.int .i64 (it.kind), .string (it.name), .int .i64 (it.num), .int .i64 (it.slot), .int .i64 (it.width), (.slice a6 it.kids.length c6)]) (results_cell_row Try.results28 _ _ (w.heap.size + 1) 73 #[.int .i64 (it.kind), .string (it.name), .int .i64 (it.num), .int .i64 (it.slot), .int .i64 (it.width), (.slice a6 it.kids.length c6)] (0, 0) _ rfl (heap_set6 HZ.out _ _ _ _ _ _) Try.underlying73 rfl (by kernel_rfl)) rfl ?_
      have BE := BD.out _ (grownBy_set6 w6 (w.heap.size + 1) (.int .i64 it.kind) (.string it.name) (.int .i64 it.num) (.int .i64 it.slot) (.int .i64 it.width) (.slice a6 it.kids.length c6))
      exact OnePost.yes HV.out rfl BE.1 trivial BE.2.1 BE.2.2.1 BE.2.2.2
  · obtain rfl : k = 8 := hkk
    show Calls Try.prog 28 #[.pointer (some ⟨p, 0, none⟩), .agg #[.int .i64 8, .string s, .int .i64 nu, .slice ka ks.length kc, .slice na ns.length nc, .int .i64 at_]] w _
    replace CX : ∀ W, Below w.heap.size w W → Calls Try.prog 49 #[.pointer (some ⟨p, 0, none⟩), .agg #[.int .i64 8, .string s, .int .i64 nu, .slice ka ks.length kc, .slice na ns.length nc, .int .i64 at_]] W fun e w' => OnePost B W p kn fv gv F G d r e w' := CX
    have HCX := Lib.hid CX
    clear CX h hk hs ho
    have hb0 : Below w.heap.size w ((w.alloc (.cells #[.int .i64 8, .string s, .int .i64 nu, .slice ka ks.length kc, .slice na ns.length nc, .int .i64 at_] 30)).alloc (.cells #[.int .i64 0, .string ⟨#[]⟩, .int .i64 0, .int .i64 0, .int .i64 0, .slice none 0 0] 73)) := ((Below.refl _ _).alloc (Nat.le_refl _) _).alloc (by simp) _
    have hq1 : ((w.alloc (.cells #[.int .i64 8, .string s, .int .i64 nu, .slice ka ks.length kc, .slice na ns.length nc, .int .i64 at_] 30)).alloc (.cells #[.int .i64 0, .string ⟨#[]⟩, .int .i64 0, .int .i64 0, .int .i64 0, .slice none 0 0] 73)).heap[w.heap.size]? = some (.cells #[.int .i64 8, .string s, .int .i64 nu, .slice ka ks.length kc, .slice na ns.length nc, .int .i64 at_] 30 (0, 0)) := (heap_alloc_old _ _ _ (by simp)).trans (heap_alloc_new w _)
    have hq2 : ((w.alloc (.cells #[.int .i64 8, .string s, .int .i64 nu, .slice ka ks.length kc, .slice na ns.length nc, .int .i64 at_] 30)).alloc (.cells #[.int .i64 0, .string ⟨#[]⟩, .int .i64 0, .int .i64 0, .int .i64 0, .slice none 0 0] 73)).heap[w.heap.size + 1]? = some (.cells #[.int .i64 0, .string ⟨#[]⟩, .int .i64 0, .int .i64 0, .int .i64 0, .slice none 0 0] 73 (0, 0)) := heap_alloc2_new w _ _
    have hsz0 : ((w.alloc (.cells #[.int .i64 8, .string s, .int .i64 nu, .slice ka ks.length kc, .slice na ns.length nc, .int .i64 at_] 30)).alloc (.cells #[.int .i64 0, .string ⟨#[]⟩, .int .i64 0, .int .i64 0, .int .i64 0, .slice none 0 0] 73)).heap.size = w.heap.size + 2 := by simp
    go_enter Try.func28, Try.ntmps28
    go_upto_region 1 with fail
    generalize ((w.alloc (.cells #[.int .i64 8, .string s, .int .i64 nu, .slice ka ks.length kc, .slice na ns.length nc, .int .i64 at_] 30)).alloc (.cells #[.int .i64 0, .string ⟨#[]⟩, .int .i64 0, .int .i64 0, .int .i64 0, .slice none 0 0] 73)) = w0 at *
    have HB0 := Lib.hid hb0
    have HQ1 := Lib.hid hq1
    have HQ2 := Lib.hid hq2
    have n0 := cell_of_row w0 w.heap.size 0 _ _ _ hq1
    have n1 := cell_of_row w0 w.heap.size 1 _ _ _ hq1
    have n2 := cell_of_row w0 w.heap.size 2 _ _ _ hq1
    have n3 := cell_of_row w0 w.heap.size 3 _ _ _ hq1
    have n4 := cell_of_row w0 w.heap.size 4 _ _ _ hq1
    have n5 := cell_of_row w0 w.heap.size 5 _ _ _ hq1
    simp at n0 n1 n2 n3 n4 n5
    clear hb0 hq1 hq2
    have CY := Lib.hid (HCX.out w0 HB0.out)
    clear HCX
    cases hr : r with
    | none =>
      rw [hr] at CY
      have HV := Lib.hid hr
      clear hr
      go_wp2_with fail
      refine CY.out.mono ?_
      rintro e w6 ⟨⟨at6, e', hne, rfl⟩, h6⟩
      have H6 := Lib.hid ((below_down HB0.out hBw).trans h6)
      clear h6
      go_wp2_with fail
      exact ⟨rfl, OnePost.no HV.out ⟨e', hne, rfl⟩ H6.out⟩
    | some q =>
      obtain ⟨it, s'⟩ := q
      rw [hr] at CY
      have HV := Lib.hid hr
      clear hr
      go_wp2_with fail
      refine CY.out.mono ?_
      rintro e w6 ⟨kv6, rfl, hit, hio, hr6, hk6, hb6⟩
      obtain ⟨a6, c6, rfl, -⟩ := id hit.shape
      have x6 := hk6.keep (HR.out.later HB0.out) HQ2.out (by decide) (by decide)
      have HZ := Lib.hid x6
      have y0 := cell_of_row w6 (w.heap.size + 1) 0 _ _ _ x6
      have y1 := cell_of_row w6 (w.heap.size + 1) 1 _ _ _ x6
      have y2 := cell_of_row w6 (w.heap.size + 1) 2 _ _ _ x6
      have y3 := cell_of_row w6 (w.heap.size + 1) 3 _ _ _ x6
      have y4 := cell_of_row w6 (w.heap.size + 1) 4 _ _ _ x6
      have y5 := cell_of_row w6 (w.heap.size + 1) 5 _ _ _ x6
      have yf : ∀ j, w6.frozen? ⟨w.heap.size + 1, j, none⟩ = false := (by intro j; unfold World.frozen?; rw [x6]; simp)
      simp at y0 y1 y2 y3 y4 y5
      have BD := Lib.hid (fun wF hg => box_done (Q := w.heap.size + 1) (wF := wF) HB0.out hpw hBw (by omega) (by omega) hk6 hb6 hr6 hit ⟨_, _, x6⟩ hg)
      clear hit hio hr6 hk6 hb6 x6
      simp only [itV]
      go_wp2_with fail
      refine bodyPost_ret (v := .agg #[.int .i64 (it.kind), .string (it.name), .int .i64 (it.num), .int .i64 (it.slot), .int .i64 (it.width), (.slice a6 it.kids.length c6)]) (results_cell_row Try.results28 _ _ (w.heap.size + 1) 73 #[.int .i64 (it.kind), .string (it.name), .int .i64 (it.num), .int .i64 (it.slot), .int .i64 (it.width), (.slice a6 it.kids.length c6)] (0, 0) _ rfl (heap_set6 HZ.out _ _ _ _ _ _) Try.underlying73 rfl (by kernel_rfl)) rfl ?_
      have BE := BD.out _ (grownBy_set6 w6 (w.heap.size + 1) (.int .i64 it.kind) (.string it.name) (.int .i64 it.num) (.int .i64 it.slot) (.int .i64 it.width) (.slice a6 it.kids.length c6))
      exact OnePost.yes HV.out rfl BE.1 trivial BE.2.1 BE.2.2.1 BE.2.2.2
  · obtain rfl : k = 9 := hkk
    show Calls Try.prog 28 #[.pointer (some ⟨p, 0, none⟩), .agg #[.int .i64 9, .string s, .int .i64 nu, .slice ka ks.length kc, .slice na ns.length nc, .int .i64 at_]] w _
    replace CX : ∀ W, Below w.heap.size w W → Calls Try.prog 50 #[.pointer (some ⟨p, 0, none⟩), .agg #[.int .i64 9, .string s, .int .i64 nu, .slice ka ks.length kc, .slice na ns.length nc, .int .i64 at_]] W fun e w' => OnePost B W p kn fv gv F G d r e w' := CX
    have HCX := Lib.hid CX
    clear CX h hk hs ho
    have hb0 : Below w.heap.size w ((w.alloc (.cells #[.int .i64 9, .string s, .int .i64 nu, .slice ka ks.length kc, .slice na ns.length nc, .int .i64 at_] 30)).alloc (.cells #[.int .i64 0, .string ⟨#[]⟩, .int .i64 0, .int .i64 0, .int .i64 0, .slice none 0 0] 73)) := ((Below.refl _ _).alloc (Nat.le_refl _) _).alloc (by simp) _
    have hq1 : ((w.alloc (.cells #[.int .i64 9, .string s, .int .i64 nu, .slice ka ks.length kc, .slice na ns.length nc, .int .i64 at_] 30)).alloc (.cells #[.int .i64 0, .string ⟨#[]⟩, .int .i64 0, .int .i64 0, .int .i64 0, .slice none 0 0] 73)).heap[w.heap.size]? = some (.cells #[.int .i64 9, .string s, .int .i64 nu, .slice ka ks.length kc, .slice na ns.length nc, .int .i64 at_] 30 (0, 0)) := (heap_alloc_old _ _ _ (by simp)).trans (heap_alloc_new w _)
    have hq2 : ((w.alloc (.cells #[.int .i64 9, .string s, .int .i64 nu, .slice ka ks.length kc, .slice na ns.length nc, .int .i64 at_] 30)).alloc (.cells #[.int .i64 0, .string ⟨#[]⟩, .int .i64 0, .int .i64 0, .int .i64 0, .slice none 0 0] 73)).heap[w.heap.size + 1]? = some (.cells #[.int .i64 0, .string ⟨#[]⟩, .int .i64 0, .int .i64 0, .int .i64 0, .slice none 0 0] 73 (0, 0)) := heap_alloc2_new w _ _
    have hsz0 : ((w.alloc (.cells #[.int .i64 9, .string s, .int .i64 nu, .slice ka ks.length kc, .slice na ns.length nc, .int .i64 at_] 30)).alloc (.cells #[.int .i64 0, .string ⟨#[]⟩, .int .i64 0, .int .i64 0, .int .i64 0, .slice none 0 0] 73)).heap.size = w.heap.size + 2 := by simp
    go_enter Try.func28, Try.ntmps28
    go_upto_region 1 with fail
    generalize ((w.alloc (.cells #[.int .i64 9, .string s, .int .i64 nu, .slice ka ks.length kc, .slice na ns.length nc, .int .i64 at_] 30)).alloc (.cells #[.int .i64 0, .string ⟨#[]⟩, .int .i64 0, .int .i64 0, .int .i64 0, .slice none 0 0] 73)) = w0 at *
    have HB0 := Lib.hid hb0
    have HQ1 := Lib.hid hq1
    have HQ2 := Lib.hid hq2
    have n0 := cell_of_row w0 w.heap.size 0 _ _ _ hq1
    have n1 := cell_of_row w0 w.heap.size 1 _ _ _ hq1
    have n2 := cell_of_row w0 w.heap.size 2 _ _ _ hq1
    have n3 := cell_of_row w0 w.heap.size 3 _ _ _ hq1
    have n4 := cell_of_row w0 w.heap.size 4 _ _ _ hq1
    have n5 := cell_of_row w0 w.heap.size 5 _ _ _ hq1
    simp at n0 n1 n2 n3 n4 n5
    clear hb0 hq1 hq2
    have CY := Lib.hid (HCX.out w0 HB0.out)
    clear HCX
    cases hr : r with
    | none =>
      rw [hr] at CY
      have HV := Lib.hid hr
      clear hr
      go_wp2_with fail
      refine CY.out.mono ?_
      rintro e w6 ⟨⟨at6, e', hne, rfl⟩, h6⟩
      have H6 := Lib.hid ((below_down HB0.out hBw).trans h6)
      clear h6
      go_wp2_with fail
      exact ⟨rfl, OnePost.no HV.out ⟨e', hne, rfl⟩ H6.out⟩
    | some q =>
      obtain ⟨it, s'⟩ := q
      rw [hr] at CY
      have HV := Lib.hid hr
      clear hr
      go_wp2_with fail
      refine CY.out.mono ?_
      rintro e w6 ⟨kv6, rfl, hit, hio, hr6, hk6, hb6⟩
      obtain ⟨a6, c6, rfl, -⟩ := id hit.shape
      have x6 := hk6.keep (HR.out.later HB0.out) HQ2.out (by decide) (by decide)
      have HZ := Lib.hid x6
      have y0 := cell_of_row w6 (w.heap.size + 1) 0 _ _ _ x6
      have y1 := cell_of_row w6 (w.heap.size + 1) 1 _ _ _ x6
      have y2 := cell_of_row w6 (w.heap.size + 1) 2 _ _ _ x6
      have y3 := cell_of_row w6 (w.heap.size + 1) 3 _ _ _ x6
      have y4 := cell_of_row w6 (w.heap.size + 1) 4 _ _ _ x6
      have y5 := cell_of_row w6 (w.heap.size + 1) 5 _ _ _ x6
      have yf : ∀ j, w6.frozen? ⟨w.heap.size + 1, j, none⟩ = false := (by intro j; unfold World.frozen?; rw [x6]; simp)
      simp at y0 y1 y2 y3 y4 y5
      have BD := Lib.hid (fun wF hg => box_done (Q := w.heap.size + 1) (wF := wF) HB0.out hpw hBw (by omega) (by omega) hk6 hb6 hr6 hit ⟨_, _, x6⟩ hg)
      clear hit hio hr6 hk6 hb6 x6
      simp only [itV]
      go_wp2_with fail
      refine bodyPost_ret (v := .agg #[.int .i64 (it.kind), .string (it.name), .int .i64 (it.num), .int .i64 (it.slot), .int .i64 (it.width), (.slice a6 it.kids.length c6)]) (results_cell_row Try.results28 _ _ (w.heap.size + 1) 73 #[.int .i64 (it.kind), .string (it.name), .int .i64 (it.num), .int .i64 (it.slot), .int .i64 (it.width), (.slice a6 it.kids.length c6)] (0, 0) _ rfl (heap_set6 HZ.out _ _ _ _ _ _) Try.underlying73 rfl (by kernel_rfl)) rfl ?_
      have BE := BD.out _ (grownBy_set6 w6 (w.heap.size + 1) (.int .i64 it.kind) (.string it.name) (.int .i64 it.num) (.int .i64 it.slot) (.int .i64 it.width) (.slice a6 it.kids.length c6))
      exact OnePost.yes HV.out rfl BE.1 trivial BE.2.1 BE.2.2.1 BE.2.2.2
end Go.Proofs.Ytpfgidhchjcomaa
