/- A message to super is resolved. -/
import Derived.Test.YtpfgidhchjcomaaMeSend
namespace Go.Proofs.Ytpfgidhchjcomaa
open Go.RowKit
set_option linter.unusedVariables false
theorem sizeNode (W : World) : (sizeOf (Try.prog.elem 28)).run Try.prog W = .ok 6 W := by kernel_rfl
theorem own_one {w : World} {E base : Nat} {T : TypeId} {c0 c1 c2 c3 c4 c5 : Value} (h : w.heap[E]? = some (.cells #[c0, c1, c2, c3, c4, c5] T (0, 0))) (hb : base ≤ E) : w.ownsRow base T 6 (.slice (some ⟨E, 0, none⟩) 1 1) 1 [c0, c1, c2, c3, c4, c5] :=
  ⟨rfl, .inr ⟨E, 1, _, rfl, hb, h, Nat.le_refl _, by unfold maxLen; omega, rfl, rfl⟩⟩
theorem super_done {B p Q E : Nat} {w w3 w6 WA wF : World} {kn : List Kn} {s : Nat} {fv gv v' : Value} {F G : List ByteArray} {d : Nat} {l : List It} {zs : Array Value} (hW : Below w.heap.size w w3) (hpw : p < w.heap.size) (hBw : B ≤ w.heap.size) (hQ : w.heap.size ≤ Q) (hQW : Q < w3.heap.size) (hk : Kt p w3 w6) (hb : Below B w3 w6) (hr : RsAt B w6 p kn s fv gv F G)
    (hz : w6.heap[Q]? = some (.cells zs 73 (0, 0))) (hA : Below w6.heap.size w6 WA) (hE : w3.heap.size ≤ E) (hEt : TyAt 73 WA E) (hg : WA.grownBy wF (some E)) (hi : ItsX 73 (fun b => w3.heap.size ≤ b) d wF v' l) :
    wF.heap[Q]? = some (.cells zs 73 (0, 0)) ∧ ∀ wG, wF.grownBy wG (some Q) → ItsX 73 (fun b => w.heap.size ≤ b) d wG v' l ∧ RsAt B wG p kn s fv gv F G ∧ Kt p w wG ∧ Below B w wG := by
  have hs := hW.size
  have hs6 := hk.size
  have hsA := hA.size
  have hzF : wF.heap[Q]? = some (.cells zs 73 (0, 0)) := (hg.block Q (by omega) fun e => by injection e with e; omega).trans ((hA.block Q (by omega)).trans hz)
  refine ⟨hzF, fun wG hG => ?_⟩
  have hkF : Kt p w3 wF := Kt.grown_new (hk.trans (Kt.of_below hA (by omega))) hg (fun g e => by injection e with e; omega) (by omega)
  have hrF : RsAt B wF p kn s fv gv F G := (hr.later hA).grown hg fun g e => by
    injection e with e
    subst e
    exact ⟨by omega, hEt⟩
  exact box_done hW hpw hBw hQ hQW hkF ((hb.trans (below_down hA (by omega))).grown hg (by omega) fun g e => by injection e with e; omega) hrF hi ⟨_, _, hzF⟩ hG
set_option maxRecDepth 100000 in
set_option maxHeartbeats 8000000 in
theorem send_super (B : Nat) (p : Nat) (kn : List Kn) (slots : Nat) (fv gv : Value) (F G : List ByteArray) (d : Nat) (K : Kfn) (n : Nd) (kv nv : Value) (w : World) (h : RsAt B w p kn slots fv gv F G) (hk : NodesX (· < B) (d + 1) w kv n.kids) (hs : StrsX (· < B) w nv n.names) (ho : NdOk n) (hok : n.kind = 7 → n.kids ≠ []) (hkc : KC B p fv gv F G (d + 1) K n.kids.tail) (hsm : superB n = true) (k0 : Nd) (l : List Nd) (hkl : n.kids = k0 :: l) (hlen : ∀ r, K kn slots l = some r → r.1.length ≤ 300) :
    Calls Try.prog 48 #[.pointer (some ⟨p, 0, none⟩), ndV n kv nv, .bool true] w fun e w' => OnePost B w p kn fv gv F G (d + 1) (sendM K kn slots n true) e w' := by
  obtain ⟨iN, hiN, nz0, nz1, nz2⟩ := info_parts itInfo
  obtain ⟨k, s, nu, ks, ns, at_⟩ := n
  obtain rfl : ks = k0 :: l := hkl
  replace hk : NodesX (· < B) (d + 1) w kv (k0 :: l) := hk
  replace hs : StrsX (· < B) w nv ns := hs
  obtain ⟨va, kc, rfl, hkc1, hkc2, -⟩ := id hk.shape
  obtain ⟨b, o, kv', nv', rfl, -⟩ := hk.at 0 k0 rfl
  obtain ⟨na, nc, rfl, -⟩ := id hs
  have hpw := h.get.1
  have hBw : B ≤ w.heap.size := by have := h.pB; omega
  have HR := Lib.hid h
  have HKD := Lib.hid hk
  have HKC := Lib.hid (show KC B p fv gv F G (d + 1) K l from hkc)
  have SA := Lib.hid (fun W (hW : Below w.heap.size w W) => super_any (· < B) (d + 1) (.mk k s nu (k0 :: l) ns at_) (.slice (some ⟨b, o, none⟩) (k0 :: l).length kc) (.slice na ns.length nc) W (hk.later hW) hok)
  have HM := Lib.hid (show sendM K kn slots (.mk k s nu (k0 :: l) ns at_) true = (if 13 < l.length + 1 then none else (K kn slots l).map fun r => (.mk 15 s 0 0 0 ((.mk 8 noName 0 0 0 []) :: r.1), r.2)) by
    unfold sendM
    rw [hsm]
    rfl)
  have HLN := Lib.hid hlen
  show Calls Try.prog 48 #[.pointer (some ⟨p, 0, none⟩), .agg #[.int .i64 k, .string s, .int .i64 nu, .slice (some ⟨b, o, none⟩) (l.length + 1) kc, .slice na ns.length nc, .int .i64 at_], .bool true] w fun e w' => OnePost B w p kn fv gv F G (d + 1) (sendM K kn slots (.mk k s nu (k0 :: l) ns at_) true) e w'
  replace SA : Hid (∀ W, Below w.heap.size w W → Calls Try.prog 72 #[.agg #[.int .i64 k, .string s, .int .i64 nu, .slice (some ⟨b, o, none⟩) (l.length + 1) kc, .slice na ns.length nc, .int .i64 at_]] W fun e w' => e = .returned (.bool true) ∧ Below W.heap.size W w') := Lib.hid fun W hW => by
    have q := SA.out W hW
    rw [hsm] at q
    exact q
  replace hkc1 : l.length + 1 ≤ kc := hkc1
  have hll : l.length + 1 ≤ 9223372036854775807 := Nat.le_trans hkc1 hkc2
  have wk : IntKind.i64.wrap ((l.length : Int) + 1 - 1) = (l.length : Int) := by
    have := IntWalk.i64_in (l.length : Int) (by omega)
    rw [← this]
    congr 1
    omega
  clear hkc h hk hs ho hok hsm hlen
  by_cases hgt : 13 < l.length + 1
  · have HV := Lib.hid (HM.out.trans (if_pos hgt))
    have hgt' : 12 < l.length := by omega
    have hgt2 : (12 : Int) < (l.length : Int) := by omega
    clear HM SA HKC
    have hb0 : Below w.heap.size w ((w.alloc (.cells #[.int .i64 k, .string s, .int .i64 nu, .slice (some ⟨b, o, none⟩) (l.length + 1) kc, .slice na ns.length nc, .int .i64 at_] 30)).alloc (.cells #[.int .i64 0, .string ⟨#[]⟩, .int .i64 0, .int .i64 0, .int .i64 0, .slice none 0 0] 73)) := ((Below.refl _ _).alloc (Nat.le_refl _) _).alloc (by simp) _
    have hq1 : ((w.alloc (.cells #[.int .i64 k, .string s, .int .i64 nu, .slice (some ⟨b, o, none⟩) (l.length + 1) kc, .slice na ns.length nc, .int .i64 at_] 30)).alloc (.cells #[.int .i64 0, .string ⟨#[]⟩, .int .i64 0, .int .i64 0, .int .i64 0, .slice none 0 0] 73)).heap[w.heap.size]? = some (.cells #[.int .i64 k, .string s, .int .i64 nu, .slice (some ⟨b, o, none⟩) (l.length + 1) kc, .slice na ns.length nc, .int .i64 at_] 30 (0, 0)) := (heap_alloc_old _ _ _ (by simp)).trans (heap_alloc_new w _)
    have hq2 : ((w.alloc (.cells #[.int .i64 k, .string s, .int .i64 nu, .slice (some ⟨b, o, none⟩) (l.length + 1) kc, .slice na ns.length nc, .int .i64 at_] 30)).alloc (.cells #[.int .i64 0, .string ⟨#[]⟩, .int .i64 0, .int .i64 0, .int .i64 0, .slice none 0 0] 73)).heap[w.heap.size + 1]? = some (.cells #[.int .i64 0, .string ⟨#[]⟩, .int .i64 0, .int .i64 0, .int .i64 0, .slice none 0 0] 73 (0, 0)) := heap_alloc2_new w _ _
    have hsz0 : ((w.alloc (.cells #[.int .i64 k, .string s, .int .i64 nu, .slice (some ⟨b, o, none⟩) (l.length + 1) kc, .slice na ns.length nc, .int .i64 at_] 30)).alloc (.cells #[.int .i64 0, .string ⟨#[]⟩, .int .i64 0, .int .i64 0, .int .i64 0, .slice none 0 0] 73)).heap.size = w.heap.size + 2 := by simp
    go_enter Try.func48, Try.ntmps48
    go_upto_region 1 with fail
    generalize ((w.alloc (.cells #[.int .i64 k, .string s, .int .i64 nu, .slice (some ⟨b, o, none⟩) (l.length + 1) kc, .slice na ns.length nc, .int .i64 at_] 30)).alloc (.cells #[.int .i64 0, .string ⟨#[]⟩, .int .i64 0, .int .i64 0, .int .i64 0, .slice none 0 0] 73)) = w0 at *
    have HB0 := Lib.hid hb0
    have HQ1 := Lib.hid hq1
    have HQ2 := Lib.hid hq2
    have n0 := cell_of_row w0 w.heap.size 0 _ _ _ hq1
    have n1 := cell_of_row w0 w.heap.size 1 _ _ _ hq1
    have n2 := cell_of_row w0 w.heap.size 2 _ _ _ hq1
    have n3 := cell_of_row w0 w.heap.size 3 _ _ _ hq1
    have n4 := cell_of_row w0 w.heap.size 4 _ _ _ hq1
    have n5 := cell_of_row w0 w.heap.size 5 _ _ _ hq1
    simp at n0 n1 n2 n3 n4 n5
    clear hb0 hq1 hq2
    have hl0 : w.heap.size + 1 < w0.heap.size := by omega
    have hl0' : w.heap.size < w0.heap.size := by omega
    go_wp2_with fail
    exact ⟨rfl, OnePost.no HV.out ⟨_, by decide, rfl⟩ (below_down HB0.out hBw)⟩
  have HV0 := Lib.hid (HM.out.trans (if_neg hgt))
  have hgt' : ¬ 12 < l.length := by omega
  have hgt2 : ¬ (12 : Int) < (l.length : Int) := by omega
  clear HM hgt
  rcases Nat.lt_or_ge 1 kc with hc | hc
  · have hne : ¬ kc = 1 := by omega
    have slc : ∀ W, (Instr.slice 28 (.slice (some ⟨b, o, none⟩) (l.length + 1) kc) (some (.int .i64 1)) none none).run Try.prog W = .ok (.slice (some ⟨b, o + 6, none⟩) l.length (kc - 1)) W := fun W => by
      have := run_slice_l (P := Try.prog) (w := W) 28 (some ⟨b, o, none⟩) (l.length + 1) kc (by kernel_rfl) .i64 1 (by omega) (by omega)
      rw [this, sizeNode]
      simp only [Result.andThen, sliced]
      rw [if_neg (by simp; omega)]
      simp [Addr.add]
    have hb0 : Below w.heap.size w ((w.alloc (.cells #[.int .i64 k, .string s, .int .i64 nu, .slice (some ⟨b, o, none⟩) (l.length + 1) kc, .slice na ns.length nc, .int .i64 at_] 30)).alloc (.cells #[.int .i64 0, .string ⟨#[]⟩, .int .i64 0, .int .i64 0, .int .i64 0, .slice none 0 0] 73)) := ((Below.refl _ _).alloc (Nat.le_refl _) _).alloc (by simp) _
    have hq1 : ((w.alloc (.cells #[.int .i64 k, .string s, .int .i64 nu, .slice (some ⟨b, o, none⟩) (l.length + 1) kc, .slice na ns.length nc, .int .i64 at_] 30)).alloc (.cells #[.int .i64 0, .string ⟨#[]⟩, .int .i64 0, .int .i64 0, .int .i64 0, .slice none 0 0] 73)).heap[w.heap.size]? = some (.cells #[.int .i64 k, .string s, .int .i64 nu, .slice (some ⟨b, o, none⟩) (l.length + 1) kc, .slice na ns.length nc, .int .i64 at_] 30 (0, 0)) := (heap_alloc_old _ _ _ (by simp)).trans (heap_alloc_new w _)
    have hq2 : ((w.alloc (.cells #[.int .i64 k, .string s, .int .i64 nu, .slice (some ⟨b, o, none⟩) (l.length + 1) kc, .slice na ns.length nc, .int .i64 at_] 30)).alloc (.cells #[.int .i64 0, .string ⟨#[]⟩, .int .i64 0, .int .i64 0, .int .i64 0, .slice none 0 0] 73)).heap[w.heap.size + 1]? = some (.cells #[.int .i64 0, .string ⟨#[]⟩, .int .i64 0, .int .i64 0, .int .i64 0, .slice none 0 0] 73 (0, 0)) := heap_alloc2_new w _ _
    have hsz0 : ((w.alloc (.cells #[.int .i64 k, .string s, .int .i64 nu, .slice (some ⟨b, o, none⟩) (l.length + 1) kc, .slice na ns.length nc, .int .i64 at_] 30)).alloc (.cells #[.int .i64 0, .string ⟨#[]⟩, .int .i64 0, .int .i64 0, .int .i64 0, .slice none 0 0] 73)).heap.size = w.heap.size + 2 := by simp
    go_enter Try.func48, Try.ntmps48
    go_upto_region 1 with fail
    generalize ((w.alloc (.cells #[.int .i64 k, .string s, .int .i64 nu, .slice (some ⟨b, o, none⟩) (l.length + 1) kc, .slice na ns.length nc, .int .i64 at_] 30)).alloc (.cells #[.int .i64 0, .string ⟨#[]⟩, .int .i64 0, .int .i64 0, .int .i64 0, .slice none 0 0] 73)) = w0 at *
    have HB0 := Lib.hid hb0
    have HQ1 := Lib.hid hq1
    have HQ2 := Lib.hid hq2
    have n0 := cell_of_row w0 w.heap.size 0 _ _ _ hq1
    have n1 := cell_of_row w0 w.heap.size 1 _ _ _ hq1
    have n2 := cell_of_row w0 w.heap.size 2 _ _ _ hq1
    have n3 := cell_of_row w0 w.heap.size 3 _ _ _ hq1
    have n4 := cell_of_row w0 w.heap.size 4 _ _ _ hq1
    have n5 := cell_of_row w0 w.heap.size 5 _ _ _ hq1
    simp at n0 n1 n2 n3 n4 n5
    clear hb0 hq1 hq2
    have hl0 : w.heap.size + 1 < w0.heap.size := by omega
    have hl0' : w.heap.size < w0.heap.size := by omega
    go_wp2_with fail
    refine (SA.out _ HB0.out).mono ?_
    rintro e w3 ⟨rfl, h3⟩
    have z3 := h3.size
    have H03 := Lib.hid h3
    have HW3 := Lib.hid (HB0.out.trans (h3.mono HB0.out.size))
    have l1 : w3.cell? ⟨w.heap.size, 1, none⟩ = some (.string s) := (h3.cell (p := ⟨w.heap.size, 1, none⟩) hl0').trans n1
    have l3 : w3.cell? ⟨w.heap.size, 3, none⟩ = some (.slice (some ⟨b, o, none⟩) (l.length + 1) kc) := (h3.cell (p := ⟨w.heap.size, 3, none⟩) hl0').trans n3
    clear h3 SA
    have AY := Lib.hid (show ∀ W, Below w3.heap.size w3 W → Calls Try.prog 13 #[.pointer (some ⟨p, 0, none⟩), .slice (some ⟨b, o + 6, none⟩) l.length (kc - 1)] W fun e w' => AlPost B W p kn fv gv F G (d + 1) (K kn slots l) e w' from fun W hW => HKC.out _ kn slots W ((HR.out.later HW3.out).later hW) ((HKD.out.tail' hc).later (HW3.out.trans (hW.mono HW3.out.size))))
    have hn3 : w.heap.size < w3.heap.size := by omega
    clear HKC
    cases hx : K kn slots l with
    | none =>
      rw [hx] at AY
      have HV := Lib.hid (show sendM K kn slots (.mk k s nu (k0 :: l) ns at_) true = none by rw [HV0.out, hx]; rfl)
      clear hx
      go_upto_region 4 with fail
      go_region_dies
      all_goals
        refine (AY.out _ ?_).mono ?_
        · repeat (first | with_reducible exact Below.refl _ _ | ((with_reducible refine Below.setCell ?_ ?_ _); rotate_left; focus (first | (simp; done) | (simp; omega) | omega)) | ((with_reducible refine Below.alloc ?_ ?_ _); rotate_left; focus (first | (simp; done) | (simp; omega) | omega)) | (with_reducible refine Below.drew ?_) | ((with_reducible refine Below.trans ?_ (Below.mono AY.out ?_)); rotate_left; focus (first | (simp; done) | (simp; omega) | omega)))
        rintro e w6 ⟨⟨at6, e', hne, rfl⟩, h6⟩
        exact ⟨rfl, OnePost.no HV.out ⟨e', hne, rfl⟩ ((below_down HW3.out hBw).trans (Below.trans (below_down (show Below w3.heap.size w3 _ by repeat (first | with_reducible exact Below.refl _ _ | ((with_reducible refine Below.setCell ?_ ?_ _); rotate_left; focus (first | (simp; done) | (simp; omega) | omega)) | ((with_reducible refine Below.alloc ?_ ?_ _); rotate_left; focus (first | (simp; done) | (simp; omega) | omega)) | (with_reducible refine Below.drew ?_) | ((with_reducible refine Below.trans ?_ (Below.mono AY.out ?_)); rotate_left; focus (first | (simp; done) | (simp; omega) | omega)))) (by omega)) h6))⟩
    | some q =>
      obtain ⟨its, s'⟩ := q
      rw [hx] at AY
      have HV := Lib.hid (show sendM K kn slots (.mk k s nu (k0 :: l) ns at_) true = some (.mk 15 s 0 0 0 ((.mk 8 noName 0 0 0 []) :: its), s') by rw [HV0.out, hx]; rfl)
      have hl300 := HLN.out _ hx
      simp only at hl300
      clear hx
      have p1 : (w3.drew).cell? ⟨w.heap.size, 1, none⟩ = some (.string s) := l1
      have p3 : (w3.drew).cell? ⟨w.heap.size, 3, none⟩ = some (.slice (some ⟨b, o, none⟩) (l.length + 1) kc) := l3
      have HC3 := Lib.hid (show ∀ W, Below w3.heap.size w3 W → W.cell? ⟨w.heap.size, 1, none⟩ = some (.string s) ∧ W.cell? ⟨w.heap.size, 3, none⟩ = some (.slice (some ⟨b, o, none⟩) (l.length + 1) kc) from fun W hW => ⟨(hW.cell (p := ⟨w.heap.size, 1, none⟩) hn3).trans l1, (hW.cell (p := ⟨w.heap.size, 3, none⟩) hn3).trans l3⟩)
      go_upto_region 4 with fail
      go_region_held3 (fun w' => w'.cell? ⟨w.heap.size, 1, none⟩ = some (.string s) ∧ w'.cell? ⟨w.heap.size, 3, none⟩ = some (.slice (some ⟨b, o, none⟩) (l.length + 1) kc))
        (first | with_reducible exact ⟨p1, p3⟩ | with_reducible exact ⟨r1, r3⟩ | with_reducible exact ⟨t1, t3⟩ | (refine HC3.out _ ?_; (repeat (first | with_reducible exact Below.refl _ _ | ((with_reducible refine Below.setCell ?_ ?_ _); rotate_left; focus (first | (simp; done) | (simp; omega) | omega)) | ((with_reducible refine Below.alloc ?_ ?_ _); rotate_left; focus (first | (simp; done) | (simp; omega) | omega)) | (with_reducible refine Below.drew ?_) | ((with_reducible refine Below.trans ?_ (Below.mono AY.out ?_)); rotate_left; focus (first | (simp; done) | (simp; omega) | omega)))); done) | (refine HC6.out _ ?_; (repeat (first | with_reducible exact Below.refl _ _ | ((with_reducible refine Below.setCell ?_ ?_ _); rotate_left; focus (first | (simp; done) | (simp; omega) | omega)) | ((with_reducible refine Below.alloc ?_ ?_ _); rotate_left; focus (first | (simp; done) | (simp; omega) | omega)) | (with_reducible refine Below.drew ?_) | ((with_reducible refine Below.trans ?_ (Below.mono AY.out ?_)); rotate_left; focus (first | (simp; done) | (simp; omega) | omega)))); done) | (refine ⟨?_, ?_⟩ <;> (repeat rw [World.cell?_setCell_far _ _ _ _ (by first | (simp; done) | (simp; omega))]) <;> with_reducible assumption))
        (first
          | (go_at_call 13
             refine (AY.out _ ?_).mono ?_
             · repeat (first | with_reducible exact Below.refl _ _ | ((with_reducible refine Below.setCell ?_ ?_ _); rotate_left; focus (first | (simp; done) | (simp; omega) | omega)) | ((with_reducible refine Below.alloc ?_ ?_ _); rotate_left; focus (first | (simp; done) | (simp; omega) | omega)) | (with_reducible refine Below.drew ?_) | ((with_reducible refine Below.trans ?_ (Below.mono AY.out ?_)); rotate_left; focus (first | (simp; done) | (simp; omega) | omega)))
             rintro e w6 ⟨v6, rfl, hit, hr6, hk6, hb6⟩
             obtain ⟨a6, c6, rfl, -⟩ := id hit.shape
             have z6 := hk6.size
             (try simp at z6)
             have hit2 := hit.turn (y := fun b => _ ≤ b ∧ b < w6.heap.size) fun b hb hx _ => ⟨hx, hb⟩
             have hk7 : Kt p w3 w6 := Kt.trans (Kt.of_below (by first | exact (Below.refl _ _).drew | exact ((Below.refl _ _).drew).alloc (by simp) _ | exact ((Below.refl _ _).alloc (by simp) _).drew) (by omega)) hk6
             have hb7 : Below B w3 w6 := Below.trans (by first | exact (Below.refl _ _).drew | exact ((Below.refl _ _).drew).alloc (by simp; omega) _ | exact ((Below.refl _ _).alloc (by omega) _).drew) hb6
             have HKW := Lib.hid (fun e (hb : _ = some (Obj.cells #[.int .i64 8, .string ⟨#[]⟩, .int .i64 0, .int .i64 0, .int .i64 0, .slice none 0 0] 73 (0, 0))) => hk6.keep (b := e) ((HR.out.later HW3.out).later (by first | exact (Below.refl _ _).drew | exact ((Below.refl _ _).drew).alloc (by simp) _ | exact ((Below.refl _ _).alloc (by simp) _).drew)) hb (by decide) (by decide))
             have x5 := hk7.keep (HR.out.later HW3.out) ((H03.out.block _ hl0').trans HQ1.out) (by decide) (by decide)
             have x6 := hk7.keep (HR.out.later HW3.out) ((H03.out.block _ hl0).trans HQ2.out) (by decide) (by decide)
             have HZ6 := Lib.hid x6
             have HN5 := Lib.hid (fun (E : Nat) (wF WA : World) (hgF : WA.grownBy wF (some E)) (hA : Below w6.heap.size w6 WA) (hE : w.heap.size + 1 < E) => (hgF.block w.heap.size (by have := hA.size; have := hk7.size; omega) (fun e => by injection e with e; omega)).trans ((hA.block w.heap.size (by have := hk7.size; omega)).trans x5))
             have r1 := cell_of_row w6 w.heap.size 1 _ _ _ x5
             have r3 := cell_of_row w6 w.heap.size 3 _ _ _ x5
             simp at r1 r3
             have hn6 : w.heap.size < w6.heap.size := lt_of_cell r1
             have HC6 := Lib.hid (show ∀ W, Below w6.heap.size w6 W → W.cell? ⟨w.heap.size, 1, none⟩ = some (.string s) ∧ W.cell? ⟨w.heap.size, 3, none⟩ = some (.slice (some ⟨b, o, none⟩) (l.length + 1) kc) from fun W hW => ⟨(hW.cell (p := ⟨w.heap.size, 1, none⟩) hn6).trans r1, (hW.cell (p := ⟨w.heap.size, 3, none⟩) hn6).trans r3⟩)
             clear x5 x6)
          | (refine step_append_self _ rfl (.tmp 24) (.tmp 29) 33 rfl w3.heap.size _ 73 iN _ Try.underlying33 hiN nz0 nz1 nz2 rfl (.mk 8 noName 0 0 0 []) rfl (by rfl) (own_one (by first | exact heap_alloc_new _ _ | exact HKW.out _ (heap_alloc_new _ _)) ?_) ?_ d (.slice a6 its.length c6) its (by rfl) ?_ hl300 ?_ ?_
             · first | omega | (simp; omega)
             · first | omega | (simp; omega)
             · first
                 | exact (hit2.later ((Below.refl _ _).alloc (Nat.le_refl _) _)).weak fun b hb => ⟨show w3.heap.size ≤ b from hb.1, by have := hb.2; omega⟩
                 | exact hit2.weak fun b hb => ⟨by have h1 := hb.1; simp at h1; omega, by have h1 := hb.1; simp at h1 ⊢; omega⟩
             · first | omega | (simp; omega)
             intro aF cF wF hiF hgF
             have SD := super_done (Q := w.heap.size + 1) HW3.out hpw hBw (by omega) (by omega) hk7 hb7 hr6 HZ6.out (by first | exact Below.refl _ _ | exact (Below.refl _ _).alloc (Nat.le_refl _) _) (by first | omega | (simp; omega)) (by first | exact ⟨_, _, heap_alloc_new _ _⟩ | exact ⟨_, _, HKW.out _ (heap_alloc_new _ _)⟩) hgF hiF
             have HZ := Lib.hid SD.1
             have xF := SD.1
             have BD := Lib.hid SD.2
             have y0 := cell_of_row wF (w.heap.size + 1) 0 _ _ _ xF
             have y1 := cell_of_row wF (w.heap.size + 1) 1 _ _ _ xF
             have y2 := cell_of_row wF (w.heap.size + 1) 2 _ _ _ xF
             have y3 := cell_of_row wF (w.heap.size + 1) 3 _ _ _ xF
             have y4 := cell_of_row wF (w.heap.size + 1) 4 _ _ _ xF
             have y5 := cell_of_row wF (w.heap.size + 1) 5 _ _ _ xF
             have yf : ∀ j, wF.frozen? ⟨w.heap.size + 1, j, none⟩ = false := (by intro j; unfold World.frozen?; rw [xF]; simp)
             simp at y0 y1 y2 y3 y4 y5
             have x5F := HN5.out _ _ _ hgF (by first | exact Below.refl _ _ | exact (Below.refl _ _).alloc (Nat.le_refl _) _) (by first | omega | (simp; omega))
             have t1 := cell_of_row wF w.heap.size 1 _ _ _ x5F
             have t3 := cell_of_row wF w.heap.size 3 _ _ _ x5F
             simp at t1 t3
             clear SD xF x5F))
      all_goals
        clear p1 p3
        go_wp2_with fail
        refine bodyPost_ret (v := .agg #[.int .i64 (15), .string (s), .int .i64 (0), .int .i64 (0), .int .i64 (0), (.slice aF (1 + its.length) cF)]) (results_cell_row Try.results48 _ _ (w.heap.size + 1) 73 #[.int .i64 (15), .string (s), .int .i64 (0), .int .i64 (0), .int .i64 (0), (.slice aF (1 + its.length) cF)] (0, 0) _ rfl (heap_set6 HZ.out _ _ _ _ _ _) Try.underlying73 rfl (by kernel_rfl)) rfl ?_
        have BE := BD.out _ (grownBy_set6 wF (w.heap.size + 1) (.int .i64 15) (.string s) (.int .i64 0) (.int .i64 0) (.int .i64 0) (.slice aF (1 + its.length) cF))
        exact OnePost.yes HV.out rfl BE.1 trivial BE.2.1 BE.2.2.1 BE.2.2.2
  · have hc1 : kc = 1 := by omega
    have HC1 := Lib.hid hc1
    have slc : ∀ W, (Instr.slice 28 (.slice (some ⟨b, o, none⟩) (l.length + 1) kc) (some (.int .i64 1)) none none).run Try.prog W = .ok (.slice (some ⟨b, o, none⟩) l.length 0) W := fun W => by
      have := run_slice_l (P := Try.prog) (w := W) 28 (some ⟨b, o, none⟩) (l.length + 1) kc (by kernel_rfl) .i64 1 (by omega) (by omega)
      rw [this, sizeNode]
      simp only [Result.andThen, sliced]
      rw [if_pos (by simp; omega)]
      simp
      omega
    clear hc1 hc
    have hb0 : Below w.heap.size w ((w.alloc (.cells #[.int .i64 k, .string s, .int .i64 nu, .slice (some ⟨b, o, none⟩) (l.length + 1) kc, .slice na ns.length nc, .int .i64 at_] 30)).alloc (.cells #[.int .i64 0, .string ⟨#[]⟩, .int .i64 0, .int .i64 0, .int .i64 0, .slice none 0 0] 73)) := ((Below.refl _ _).alloc (Nat.le_refl _) _).alloc (by simp) _
    have hq1 : ((w.alloc (.cells #[.int .i64 k, .string s, .int .i64 nu, .slice (some ⟨b, o, none⟩) (l.length + 1) kc, .slice na ns.length nc, .int .i64 at_] 30)).alloc (.cells #[.int .i64 0, .string ⟨#[]⟩, .int .i64 0, .int .i64 0, .int .i64 0, .slice none 0 0] 73)).heap[w.heap.size]? = some (.cells #[.int .i64 k, .string s, .int .i64 nu, .slice (some ⟨b, o, none⟩) (l.length + 1) kc, .slice na ns.length nc, .int .i64 at_] 30 (0, 0)) := (heap_alloc_old _ _ _ (by simp)).trans (heap_alloc_new w _)
    have hq2 : ((w.alloc (.cells #[.int .i64 k, .string s, .int .i64 nu, .slice (some ⟨b, o, none⟩) (l.length + 1) kc, .slice na ns.length nc, .int .i64 at_] 30)).alloc (.cells #[.int .i64 0, .string ⟨#[]⟩, .int .i64 0, .int .i64 0, .int .i64 0, .slice none 0 0] 73)).heap[w.heap.size + 1]? = some (.cells #[.int .i64 0, .string ⟨#[]⟩, .int .i64 0, .int .i64 0, .int .i64 0, .slice none 0 0] 73 (0, 0)) := heap_alloc2_new w _ _
    have hsz0 : ((w.alloc (.cells #[.int .i64 k, .string s, .int .i64 nu, .slice (some ⟨b, o, none⟩) (l.length + 1) kc, .slice na ns.length nc, .int .i64 at_] 30)).alloc (.cells #[.int .i64 0, .string ⟨#[]⟩, .int .i64 0, .int .i64 0, .int .i64 0, .slice none 0 0] 73)).heap.size = w.heap.size + 2 := by simp
    go_enter Try.func48, Try.ntmps48
    go_upto_region 1 with fail
    generalize ((w.alloc (.cells #[.int .i64 k, .string s, .int .i64 nu, .slice (some ⟨b, o, none⟩) (l.length + 1) kc, .slice na ns.length nc, .int .i64 at_] 30)).alloc (.cells #[.int .i64 0, .string ⟨#[]⟩, .int .i64 0, .int .i64 0, .int .i64 0, .slice none 0 0] 73)) = w0 at *
    have HB0 := Lib.hid hb0
    have HQ1 := Lib.hid hq1
    have HQ2 := Lib.hid hq2
    have n0 := cell_of_row w0 w.heap.size 0 _ _ _ hq1
    have n1 := cell_of_row w0 w.heap.size 1 _ _ _ hq1
    have n2 := cell_of_row w0 w.heap.size 2 _ _ _ hq1
    have n3 := cell_of_row w0 w.heap.size 3 _ _ _ hq1
    have n4 := cell_of_row w0 w.heap.size 4 _ _ _ hq1
    have n5 := cell_of_row w0 w.heap.size 5 _ _ _ hq1
    simp at n0 n1 n2 n3 n4 n5
    clear hb0 hq1 hq2
    have hl0 : w.heap.size + 1 < w0.heap.size := by omega
    have hl0' : w.heap.size < w0.heap.size := by omega
    go_wp2_with fail
    refine (SA.out _ HB0.out).mono ?_
    rintro e w3 ⟨rfl, h3⟩
    have z3 := h3.size
    have H03 := Lib.hid h3
    have HW3 := Lib.hid (HB0.out.trans (h3.mono HB0.out.size))
    have l1 : w3.cell? ⟨w.heap.size, 1, none⟩ = some (.string s) := (h3.cell (p := ⟨w.heap.size, 1, none⟩) hl0').trans n1
    have l3 : w3.cell? ⟨w.heap.size, 3, none⟩ = some (.slice (some ⟨b, o, none⟩) (l.length + 1) kc) := (h3.cell (p := ⟨w.heap.size, 3, none⟩) hl0').trans n3
    clear h3 SA
    have AY := Lib.hid (show ∀ W, Below w3.heap.size w3 W → Calls Try.prog 13 #[.pointer (some ⟨p, 0, none⟩), .slice (some ⟨b, o, none⟩) l.length 0] W fun e w' => AlPost B W p kn fv gv F G (d + 1) (K kn slots l) e w' from fun W hW => HKC.out _ kn slots W ((HR.out.later HW3.out).later hW) ((HKD.out.tail1 HC1.out).later (HW3.out.trans (hW.mono HW3.out.size))))
    have hn3 : w.heap.size < w3.heap.size := by omega
    clear HKC
    cases hx : K kn slots l with
    | none =>
      rw [hx] at AY
      have HV := Lib.hid (show sendM K kn slots (.mk k s nu (k0 :: l) ns at_) true = none by rw [HV0.out, hx]; rfl)
      clear hx
      go_upto_region 4 with fail
      go_region_dies
      all_goals
        refine (AY.out _ ?_).mono ?_
        · repeat (first | with_reducible exact Below.refl _ _ | ((with_reducible refine Below.setCell ?_ ?_ _); rotate_left; focus (first | (simp; done) | (simp; omega) | omega)) | ((with_reducible refine Below.alloc ?_ ?_ _); rotate_left; focus (first | (simp; done) | (simp; omega) | omega)) | (with_reducible refine Below.drew ?_) | ((with_reducible refine Below.trans ?_ (Below.mono AY.out ?_)); rotate_left; focus (first | (simp; done) | (simp; omega) | omega)))
        rintro e w6 ⟨⟨at6, e', hne, rfl⟩, h6⟩
        exact ⟨rfl, OnePost.no HV.out ⟨e', hne, rfl⟩ ((below_down HW3.out hBw).trans (Below.trans (below_down (show Below w3.heap.size w3 _ by repeat (first | with_reducible exact Below.refl _ _ | ((with_reducible refine Below.setCell ?_ ?_ _); rotate_left; focus (first | (simp; done) | (simp; omega) | omega)) | ((with_reducible refine Below.alloc ?_ ?_ _); rotate_left; focus (first | (simp; done) | (simp; omega) | omega)) | (with_reducible refine Below.drew ?_) | ((with_reducible refine Below.trans ?_ (Below.mono AY.out ?_)); rotate_left; focus (first | (simp; done) | (simp; omega) | omega)))) (by omega)) h6))⟩
    | some q =>
      obtain ⟨its, s'⟩ := q
      rw [hx] at AY
      have HV := Lib.hid (show sendM K kn slots (.mk k s nu (k0 :: l) ns at_) true = some (.mk 15 s 0 0 0 ((.mk 8 noName 0 0 0 []) :: its), s') by rw [HV0.out, hx]; rfl)
      have hl300 := HLN.out _ hx
      simp only at hl300
      clear hx
      have p1 : (w3.drew).cell? ⟨w.heap.size, 1, none⟩ = some (.string s) := l1
      have p3 : (w3.drew).cell? ⟨w.heap.size, 3, none⟩ = some (.slice (some ⟨b, o, none⟩) (l.length + 1) kc) := l3
      have HC3 := Lib.hid (show ∀ W, Below w3.heap.size w3 W → W.cell? ⟨w.heap.size, 1, none⟩ = some (.string s) ∧ W.cell? ⟨w.heap.size, 3, none⟩ = some (.slice (some ⟨b, o, none⟩) (l.length + 1) kc) from fun W hW => ⟨(hW.cell (p := ⟨w.heap.size, 1, none⟩) hn3).trans l1, (hW.cell (p := ⟨w.heap.size, 3, none⟩) hn3).trans l3⟩)
      go_upto_region 4 with fail
      go_region_held3 (fun w' => w'.cell? ⟨w.heap.size, 1, none⟩ = some (.string s) ∧ w'.cell? ⟨w.heap.size, 3, none⟩ = some (.slice (some ⟨b, o, none⟩) (l.length + 1) kc))
        (first | with_reducible exact ⟨p1, p3⟩ | with_reducible exact ⟨r1, r3⟩ | with_reducible exact ⟨t1, t3⟩ | (refine HC3.out _ ?_; (repeat (first | with_reducible exact Below.refl _ _ | ((with_reducible refine Below.setCell ?_ ?_ _); rotate_left; focus (first | (simp; done) | (simp; omega) | omega)) | ((with_reducible refine Below.alloc ?_ ?_ _); rotate_left; focus (first | (simp; done) | (simp; omega) | omega)) | (with_reducible refine Below.drew ?_) | ((with_reducible refine Below.trans ?_ (Below.mono AY.out ?_)); rotate_left; focus (first | (simp; done) | (simp; omega) | omega)))); done) | (refine HC6.out _ ?_; (repeat (first | with_reducible exact Below.refl _ _ | ((with_reducible refine Below.setCell ?_ ?_ _); rotate_left; focus (first | (simp; done) | (simp; omega) | omega)) | ((with_reducible refine Below.alloc ?_ ?_ _); rotate_left; focus (first | (simp; done) | (simp; omega) | omega)) | (with_reducible refine Below.drew ?_) | ((with_reducible refine Below.trans ?_ (Below.mono AY.out ?_)); rotate_left; focus (first | (simp; done) | (simp; omega) | omega)))); done) | (refine ⟨?_, ?_⟩ <;> (repeat rw [World.cell?_setCell_far _ _ _ _ (by first | (simp; done) | (simp; omega))]) <;> with_reducible assumption))
        (first
          | (go_at_call 13
             refine (AY.out _ ?_).mono ?_
             · repeat (first | with_reducible exact Below.refl _ _ | ((with_reducible refine Below.setCell ?_ ?_ _); rotate_left; focus (first | (simp; done) | (simp; omega) | omega)) | ((with_reducible refine Below.alloc ?_ ?_ _); rotate_left; focus (first | (simp; done) | (simp; omega) | omega)) | (with_reducible refine Below.drew ?_) | ((with_reducible refine Below.trans ?_ (Below.mono AY.out ?_)); rotate_left; focus (first | (simp; done) | (simp; omega) | omega)))
             rintro e w6 ⟨v6, rfl, hit, hr6, hk6, hb6⟩
             obtain ⟨a6, c6, rfl, -⟩ := id hit.shape
             have z6 := hk6.size
             (try simp at z6)
             have hit2 := hit.turn (y := fun b => _ ≤ b ∧ b < w6.heap.size) fun b hb hx _ => ⟨hx, hb⟩
             have hk7 : Kt p w3 w6 := Kt.trans (Kt.of_below (by first | exact (Below.refl _ _).drew | exact ((Below.refl _ _).drew).alloc (by simp) _ | exact ((Below.refl _ _).alloc (by simp) _).drew) (by omega)) hk6
             have hb7 : Below B w3 w6 := Below.trans (by first | exact (Below.refl _ _).drew | exact ((Below.refl _ _).drew).alloc (by simp; omega) _ | exact ((Below.refl _ _).alloc (by omega) _).drew) hb6
             have HKW := Lib.hid (fun e (hb : _ = some (Obj.cells #[.int .i64 8, .string ⟨#[]⟩, .int .i64 0, .int .i64 0, .int .i64 0, .slice none 0 0] 73 (0, 0))) => hk6.keep (b := e) ((HR.out.later HW3.out).later (by first | exact (Below.refl _ _).drew | exact ((Below.refl _ _).drew).alloc (by simp) _ | exact ((Below.refl _ _).alloc (by simp) _).drew)) hb (by decide) (by decide))
             have x5 := hk7.keep (HR.out.later HW3.out) ((H03.out.block _ hl0').trans HQ1.out) (by decide) (by decide)
             have x6 := hk7.keep (HR.out.later HW3.out) ((H03.out.block _ hl0).trans HQ2.out) (by decide) (by decide)
             have HZ6 := Lib.hid x6
             have HN5 := Lib.hid (fun (E : Nat) (wF WA : World) (hgF : WA.grownBy wF (some E)) (hA : Below w6.heap.size w6 WA) (hE : w.heap.size + 1 < E) => (hgF.block w.heap.size (by have := hA.size; have := hk7.size; omega) (fun e => by injection e with e; omega)).trans ((hA.block w.heap.size (by have := hk7.size; omega)).trans x5))
             have r1 := cell_of_row w6 w.heap.size 1 _ _ _ x5
             have r3 := cell_of_row w6 w.heap.size 3 _ _ _ x5
             simp at r1 r3
             have hn6 : w.heap.size < w6.heap.size := lt_of_cell r1
             have HC6 := Lib.hid (show ∀ W, Below w6.heap.size w6 W → W.cell? ⟨w.heap.size, 1, none⟩ = some (.string s) ∧ W.cell? ⟨w.heap.size, 3, none⟩ = some (.slice (some ⟨b, o, none⟩) (l.length + 1) kc) from fun W hW => ⟨(hW.cell (p := ⟨w.heap.size, 1, none⟩) hn6).trans r1, (hW.cell (p := ⟨w.heap.size, 3, none⟩) hn6).trans r3⟩)
             clear x5 x6)
          | (refine step_append_self _ rfl (.tmp 24) (.tmp 29) 33 rfl w3.heap.size _ 73 iN _ Try.underlying33 hiN nz0 nz1 nz2 rfl (.mk 8 noName 0 0 0 []) rfl (by rfl) (own_one (by first | exact heap_alloc_new _ _ | exact HKW.out _ (heap_alloc_new _ _)) ?_) ?_ d (.slice a6 its.length c6) its (by rfl) ?_ hl300 ?_ ?_
             · first | omega | (simp; omega)
             · first | omega | (simp; omega)
             · first
                 | exact (hit2.later ((Below.refl _ _).alloc (Nat.le_refl _) _)).weak fun b hb => ⟨show w3.heap.size ≤ b from hb.1, by have := hb.2; omega⟩
                 | exact hit2.weak fun b hb => ⟨by have h1 := hb.1; simp at h1; omega, by have h1 := hb.1; simp at h1 ⊢; omega⟩
             · first | omega | (simp; omega)
             intro aF cF wF hiF hgF
             have SD := super_done (Q := w.heap.size + 1) HW3.out hpw hBw (by omega) (by omega) hk7 hb7 hr6 HZ6.out (by first | exact Below.refl _ _ | exact (Below.refl _ _).alloc (Nat.le_refl _) _) (by first | omega | (simp; omega)) (by first | exact ⟨_, _, heap_alloc_new _ _⟩ | exact ⟨_, _, HKW.out _ (heap_alloc_new _ _)⟩) hgF hiF
             have HZ := Lib.hid SD.1
             have xF := SD.1
             have BD := Lib.hid SD.2
             have y0 := cell_of_row wF (w.heap.size + 1) 0 _ _ _ xF
             have y1 := cell_of_row wF (w.heap.size + 1) 1 _ _ _ xF
             have y2 := cell_of_row wF (w.heap.size + 1) 2 _ _ _ xF
             have y3 := cell_of_row wF (w.heap.size + 1) 3 _ _ _ xF
             have y4 := cell_of_row wF (w.heap.size + 1) 4 _ _ _ xF
             have y5 := cell_of_row wF (w.heap.size + 1) 5 _ _ _ xF
             have yf : ∀ j, wF.frozen? ⟨w.heap.size + 1, j, none⟩ = false := (by intro j; unfold World.frozen?; rw [xF]; simp)
             simp at y0 y1 y2 y3 y4 y5
             have x5F := HN5.out _ _ _ hgF (by first | exact Below.refl _ _ | exact (Below.refl _ _).alloc (Nat.le_refl _) _) (by first | omega | (simp; omega))
             have t1 := cell_of_row wF w.heap.size 1 _ _ _ x5F
             have t3 := cell_of_row wF w.heap.size 3 _ _ _ x5F
             simp at t1 t3
             clear SD xF x5F))
      all_goals
        clear p1 p3
        go_wp2_with fail
        refine bodyPost_ret (v := .agg #[.int .i64 (15), .string (s), .int .i64 (0), .int .i64 (0), .int .i64 (0), (.slice aF (1 + its.length) cF)]) (results_cell_row Try.results48 _ _ (w.heap.size + 1) 73 #[.int .i64 (15), .string (s), .int .i64 (0), .int .i64 (0), .int .i64 (0), (.slice aF (1 + its.length) cF)] (0, 0) _ rfl (heap_set6 HZ.out _ _ _ _ _ _) Try.underlying73 rfl (by kernel_rfl)) rfl ?_
        have BE := BD.out _ (grownBy_set6 wF (w.heap.size + 1) (.int .i64 15) (.string s) (.int .i64 0) (.int .i64 0) (.int .i64 0) (.slice aF (1 + its.length) cF))
        exact OnePost.yes HV.out rfl BE.1 trivial BE.2.1 BE.2.2.1 BE.2.2.2
end Go.Proofs.Ytpfgidhchjcomaa
