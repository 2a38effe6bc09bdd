/- A cascade is resolved. -/
import Derived.Test.YtpfgidhchjcomaaMeSendS
import Derived.Deep.RegionLaw
namespace Go.Proofs.Ytpfgidhchjcomaa
open Go.RowKit
set_option linter.unusedVariables false
theorem it_next2 {B p S0 : Nat} {w wr W5 w6 WA wF : World} {kn : List Kn} {s1 s2 : Nat} {fv gv u kv : Value} {F G : List ByteArray} {d : Nat} {L : List It} {cs : List Value} {x : It} {gg cap : Nat}
    (hR : RsAt B wr p kn s1 fv gv F G) (hpw : p < w.heap.size) (hBw : B ≤ w.heap.size) (hS : w.heap.size ≤ S0) (hS2 : S0 ≤ wr.heap.size) (hO : wr.ownsRow S0 73 6 u L.length cs) (hC : ItCs 73 (fun b => S0 ≤ b) d wr u L cs) (hk : Kt p w wr) (hb : Below B w wr)
    (h5 : Below wr.heap.size wr W5) (h6 : Kt p W5 w6) (h6b : Below B W5 w6) (hR6 : RsAt B w6 p kn s2 fv gv F G) (hx : ItsX 73 (fun b => W5.heap.size ≤ b) d w6 kv x.kids) (ho : ItOk x)
    (h7 : Below w6.heap.size w6 WA) (hg : WA.grownBy wF u.ownBlock) (hat : u.ownBlock = some gg ∨ gg = WA.heap.size) :
    ItCs 73 (fun b => S0 ≤ b) d wF (.slice (some ⟨gg, 0, none⟩) (L.length + 1) cap) (L ++ [x]) (cs ++ itC x kv) ∧ RsAt B wF p kn s2 fv gv F G ∧ Kt p w wF ∧ Below B w wF := by
  have hws := hk.size
  have h5s := h5.size
  have h6s := h6.size
  have h7s := h7.size
  have hpr : p < wr.heap.size := by omega
  have hkt : Kt p wr w6 := (Kt.of_below h5 hpr).trans h6
  have hty : ∀ g, u.ownBlock = some g → TyAt 73 wr g := fun g hg => by
    rcases hO.2 with ⟨rfl, -⟩ | ⟨g', cap', cur, rfl, -, hh, -⟩
    · cases hg
    · injection hg with e
      have e' : g' = g := e
      subst e'
      exact ⟨_, _, hh⟩
  have hsame : ∀ k, k < wr.heap.size → TyAt 73 wr k → WA.heap[k]? = wr.heap[k]? := fun k hk ⟨c, f, ht⟩ => (h7.block k (by omega)).trans ((hkt.keep hR ht (by decide) (by decide)).trans ht.symm)
  have htyA : ∀ g, u.ownBlock = some g → TyAt 73 WA g := fun g hg => (hty g hg).of (hsame g (hty g hg).lt (hty g hg))
  have how : ∀ g, u.ownBlock = some g → S0 ≤ g := fun g hg => (hO.lt g hg).1
  refine ⟨it_push hC (fun g hg => (hO.lt g hg).2) (fun k hk _ _ ht => hsame k hk ht) (by omega) ((hx.weak fun b hb => by omega).later h7) ho (fun b hb => by omega) hg hat, (hR6.later h7).grown hg fun g hg => ⟨by have := how g hg; omega, htyA g hg⟩, Kt.grown_new ((hk.trans hkt).trans (Kt.of_below h7 (by omega))) hg (fun g hg => by have := how g hg; omega) hpw, ?_⟩
  exact ((((hb.trans (below_down h5 (by omega))).trans h6b).trans (below_down h7 (by omega))).grown hg (by omega) fun g hg => by have := how g hg; omega)
/-- a box of the call's own is set -/
theorem box_set {B p Q : Nat} {w w5 wF : World} {kn : List Kn} {s : Nat} {fv gv : Value} {F G : List ByteArray} (hpw : p < w.heap.size) (hBw : B ≤ w.heap.size) (hQ : w.heap.size ≤ Q) (hk : Kt p w w5) (hb : Below B w w5) (hr : RsAt B w5 p kn s fv gv F G)
    (hz : TyAt 73 w5 Q) (hg : w5.grownBy wF (some Q)) :
    RsAt B wF p kn s fv gv F G ∧ Kt p w wF ∧ Below B w wF := by
  have hs := hk.size
  refine ⟨hr.grown hg fun g hg' => ?_, Kt.grown_new hk hg (fun g hg' => ?_) hpw, ?_⟩
  · injection hg' with e
    subst e
    exact ⟨by omega, hz⟩
  · injection hg' with e
    omega
  · exact hb.grown hg (by omega) fun g hg' => by injection hg' with e; omega
theorem casc_set {S0 Q : Nat} {w wF : World} {u : Value} {d : Nat} {L : List It} {cs : List Value} (hQ : Q < S0) (hO : w.ownsRow S0 73 6 u L.length cs) (hC : ItCs 73 (fun b => S0 ≤ b) d w u L cs) (hg : w.grownBy wF (some Q)) :
    wF.ownsRow S0 73 6 u L.length cs ∧ ItCs 73 (fun b => S0 ≤ b) d wF u L cs :=
  ⟨own_grown hO fun g hg' => hg.block g (hO.lt g hg').2 fun e => by injection e with e; have := (hO.lt g hg').1; omega, hC.keep fun k hk hp _ _ => hg.block k hk fun e => by injection e with e; omega⟩
set_option maxRecDepth 100000 in
set_option maxHeartbeats 8000000 in
theorem cascade_step (f : Nat → Nd → Option (It × Nat)) (B : Nat) (p : Nat) (kn : List Kn) (slots : Nat) (fv gv : Value) (F G : List ByteArray) (d : Nat) (n : Nd) (kv nv : Value) (w : World) (h : RsAt B w p kn slots fv gv F G) (hk : NodesX (· < B) (d + 1) w kv n.kids) (hs : StrsX (· < B) w nv n.names) (hlen : n.kids.length ≤ 200)
    (H : ∀ n' kv nv s W, n' ∈ n.kids → RsAt B W p kn s fv gv F G → NodesX (· < B) d W kv n'.kids → StrsX (· < B) W nv n'.names → NdOk n' → Calls Try.prog 48 #[.pointer (some ⟨p, 0, none⟩), ndV n' kv nv, .bool false] W fun e w' => OnePost B W p kn fv gv F G d (f s n') e w') :
    Calls Try.prog 49 #[.pointer (some ⟨p, 0, none⟩), ndV n kv nv] w fun e w' => OnePost B w p kn fv gv F G (d + 1) ((resLs f slots n.kids).map fun r => (.mk 16 noName 0 0 0 r.1, r.2)) e w' := by
  obtain ⟨iN, hiN, nz0, nz1, nz2⟩ := info_parts itInfo
  obtain ⟨k, s, nu, ks, ns, at_⟩ := n
  replace hk : NodesX (· < B) (d + 1) w kv ks := hk
  replace hs : StrsX (· < B) w nv ns := hs
  replace hlen : ks.length ≤ 200 := hlen
  obtain ⟨ka, kc, rfl, -⟩ := id hk.shape
  obtain ⟨na, nc, rfl, -⟩ := id hs
  have hpw := h.get.1
  have hBw : B ≤ w.heap.size := by have := h.pB; omega
  have HR := Lib.hid h
  have HKD := Lib.hid hk
  have HH := Lib.hid H
  have HSN := Lib.hid (fun x r s => resLs_snoc f x r s)
  have HNO := Lib.hid (fun x r s => resLs_none f x r s)
  have HTD := Lib.hid (fun i => (List.take_append_drop i ks).symm)
  clear h hk hs H
  show Calls Try.prog 49 #[.pointer (some ⟨p, 0, none⟩), .agg #[.int .i64 k, .string s, .int .i64 nu, .slice ka ks.length kc, .slice na ns.length nc, .int .i64 at_]] w fun e w' => OnePost B w p kn fv gv F G (d + 1) ((resLs f slots ks).map fun r => (.mk 16 noName 0 0 0 r.1, r.2)) e w'
  have hb0 : Below w.heap.size w (((w.alloc (.cells #[.int .i64 k, .string s, .int .i64 nu, .slice ka ks.length kc, .slice na ns.length nc, .int .i64 at_] 30)).alloc (.cells #[.int .i64 0, .string ⟨#[]⟩, .int .i64 0, .int .i64 0, .int .i64 0, .slice none 0 0] 73)).alloc (.cells #[.int .i64 16, .string ⟨#[]⟩, .int .i64 0, .int .i64 0, .int .i64 0, .slice none 0 0] 73)) := (((Below.refl _ _).alloc (Nat.le_refl _) _).alloc (by simp) _).alloc (by simp; omega) _
  have hq1 : (((w.alloc (.cells #[.int .i64 k, .string s, .int .i64 nu, .slice ka ks.length kc, .slice na ns.length nc, .int .i64 at_] 30)).alloc (.cells #[.int .i64 0, .string ⟨#[]⟩, .int .i64 0, .int .i64 0, .int .i64 0, .slice none 0 0] 73)).alloc (.cells #[.int .i64 16, .string ⟨#[]⟩, .int .i64 0, .int .i64 0, .int .i64 0, .slice none 0 0] 73)).heap[w.heap.size]? = some (.cells #[.int .i64 k, .string s, .int .i64 nu, .slice ka ks.length kc, .slice na ns.length nc, .int .i64 at_] 30 (0, 0)) := (heap_alloc_old _ _ _ (by simp; omega)).trans ((heap_alloc_old _ _ _ (by simp)).trans (heap_alloc_new w _))
  have hq2 : (((w.alloc (.cells #[.int .i64 k, .string s, .int .i64 nu, .slice ka ks.length kc, .slice na ns.length nc, .int .i64 at_] 30)).alloc (.cells #[.int .i64 0, .string ⟨#[]⟩, .int .i64 0, .int .i64 0, .int .i64 0, .slice none 0 0] 73)).alloc (.cells #[.int .i64 16, .string ⟨#[]⟩, .int .i64 0, .int .i64 0, .int .i64 0, .slice none 0 0] 73)).heap[w.heap.size + 1]? = some (.cells #[.int .i64 0, .string ⟨#[]⟩, .int .i64 0, .int .i64 0, .int .i64 0, .slice none 0 0] 73 (0, 0)) := (heap_alloc_old _ _ _ (by simp)).trans (heap_alloc2_new w _ _)
  have hq3 : (((w.alloc (.cells #[.int .i64 k, .string s, .int .i64 nu, .slice ka ks.length kc, .slice na ns.length nc, .int .i64 at_] 30)).alloc (.cells #[.int .i64 0, .string ⟨#[]⟩, .int .i64 0, .int .i64 0, .int .i64 0, .slice none 0 0] 73)).alloc (.cells #[.int .i64 16, .string ⟨#[]⟩, .int .i64 0, .int .i64 0, .int .i64 0, .slice none 0 0] 73)).heap[w.heap.size + 2]? = some (.cells #[.int .i64 16, .string ⟨#[]⟩, .int .i64 0, .int .i64 0, .int .i64 0, .slice none 0 0] 73 (0, 0)) := by
    have := heap_alloc_new ((w.alloc (.cells #[.int .i64 k, .string s, .int .i64 nu, .slice ka ks.length kc, .slice na ns.length nc, .int .i64 at_] 30)).alloc (.cells #[.int .i64 0, .string ⟨#[]⟩, .int .i64 0, .int .i64 0, .int .i64 0, .slice none 0 0] 73)) (.cells #[.int .i64 16, .string ⟨#[]⟩, .int .i64 0, .int .i64 0, .int .i64 0, .slice none 0 0] 73)
    simpa using this
  have hsz0 : (((w.alloc (.cells #[.int .i64 k, .string s, .int .i64 nu, .slice ka ks.length kc, .slice na ns.length nc, .int .i64 at_] 30)).alloc (.cells #[.int .i64 0, .string ⟨#[]⟩, .int .i64 0, .int .i64 0, .int .i64 0, .slice none 0 0] 73)).alloc (.cells #[.int .i64 16, .string ⟨#[]⟩, .int .i64 0, .int .i64 0, .int .i64 0, .slice none 0 0] 73)).heap.size = w.heap.size + 3 := by simp
  go_enter Try.func49, Try.ntmps49
  go_upto_region 2 with fail
  generalize (((w.alloc (.cells #[.int .i64 k, .string s, .int .i64 nu, .slice ka ks.length kc, .slice na ns.length nc, .int .i64 at_] 30)).alloc (.cells #[.int .i64 0, .string ⟨#[]⟩, .int .i64 0, .int .i64 0, .int .i64 0, .slice none 0 0] 73)).alloc (.cells #[.int .i64 16, .string ⟨#[]⟩, .int .i64 0, .int .i64 0, .int .i64 0, .slice none 0 0] 73)) = w0 at *
  have HB0 := Lib.hid hb0
  have n3 := cell_of_row w0 w.heap.size 3 _ _ _ hq1
  simp at n3
  have HI0 := Lib.hid (show w0.heap[w.heap.size + 1]? = some (.cells #[.int .i64 0, .string ⟨#[]⟩, .int .i64 0, .int .i64 0, .int .i64 0, .slice none 0 0] 73 (0, 0)) ∧ w0.heap[w.heap.size + 2]? = some (.cells #[.int .i64 16, .string ⟨#[]⟩, .int .i64 0, .int .i64 0, .int .i64 0, (.slice none 0 0)] 73 (0, 0)) from ⟨hq2, hq3⟩)
  clear hb0 hq1 hq2 hq3
  have hp0 : p < w0.heap.size := by omega
  have hB0 : B ≤ w0.heap.size := by omega
  go_wp2_with fail
  go_loopg [7, 12] ks.length (fun gg s7 s12 wr => ∃ (i : Nat) (q : List It × Nat) (cs : List Value) (a : Option Addr) (cap : Nat), gg = ks.length - i ∧ i ≤ ks.length ∧ s12 = .int .i64 (i : Int) ∧ resLs f slots (ks.take i) = some q ∧ (wr.heap[w.heap.size + 1]? = some (.cells #[.int .i64 0, .string ⟨#[]⟩, .int .i64 0, .int .i64 0, .int .i64 0, .slice none 0 0] 73 (0, 0)) ∧ wr.heap[w.heap.size + 2]? = some (.cells #[.int .i64 16, .string ⟨#[]⟩, .int .i64 0, .int .i64 0, .int .i64 0, (.slice a q.1.length cap)] 73 (0, 0))) ∧ wr.ownsRow w0.heap.size 73 6 (.slice a q.1.length cap) q.1.length cs ∧ ItCs 73 (fun b => w0.heap.size ≤ b) d wr (.slice a q.1.length cap) q.1 cs ∧ RsAt B wr p kn q.2 fv gv F G ∧ Kt p w wr ∧ Below B w wr)
  case atStart => exact ⟨0, ([], slots), [], none, 0, rfl, by omega, rfl, rfl, HI0.out, World.ownsRow_nil _ _ _ _, ItCs.nil _ _ _ _ _, HR.out.later HB0.out, Kt.of_below HB0.out hpw, below_down HB0.out hBw⟩
  case round =>
    obtain ⟨i, ⟨its, sl⟩, cs, ua, uc, hg, hi, rfl, hq, ⟨hz1, hz2⟩, hown, hic, hr, hkt, hb⟩ := hrel
    have HGG := Lib.hid hg
    have HQ := Lib.hid hq
    have HZ1 := Lib.hid hz1
    have HZ2 := Lib.hid hz2
    have HOW := Lib.hid hown
    have HIC := Lib.hid hic
    have HRR := Lib.hid hr
    have HK := Lib.hid hkt
    have HB := Lib.hid hb
    have HSI := Lib.hid (show NodesX (· < B) (d + 1) wr (.slice ka ks.length kc) ks from HKD.out.keep fun k _ hk => hb.block k hk)
    have hws := hb.size
    have hw0 : w0.heap.size ≤ wr.heap.size := by have h1 := lt_of_cell (cell_of_row wr (w.heap.size + 2) 5 _ _ _ hz2 : wr.cell? ⟨w.heap.size + 2, 5, none⟩ = _); omega
    have hil : its.length ≤ 200 := by
      have := resLs_len f _ _ _ hq
      rw [List.length_take] at this
      simp only at this
      omega
    have cu := cell_of_row wr (w.heap.size + 2) 5 _ _ _ hz2
    simp at cu
    have cf : wr.frozen? ⟨w.heap.size + 2, 5, none⟩ = false := by unfold World.frozen?; rw [hz2]; simp
    clear hg hq hown hic hr hkt hb
    by_cases hlt' : i < ks.length
    · have hl := List.getElem?_eq_getElem hlt'
      obtain ⟨b, o, kv, nv, rfl, c0, c1, c2, c3, c4, c5, hk, hs, ho⟩ := HSI.out.at i _ hl
      obtain ⟨ka2, kc2, rfl, -⟩ := id hk.shape
      obtain ⟨na2, nc2, rfl, -⟩ := id hs
      have HKI := Lib.hid hk
      have HNI := Lib.hid hs
      have HOI := Lib.hid ho
      have HREC := Lib.hid (fun (kv nv : Value) (s : Nat) (W : World) (h1 : RsAt B W p kn s fv gv F G) (h2 : NodesX (· < B) d W kv ks[i].kids) (h3 : StrsX (· < B) W nv ks[i].names) (h4 : NdOk ks[i]) => HH.out ks[i] kv nv s W (List.getElem_mem hlt') h1 h2 h3 h4)
      have HT := Lib.hid (show ks.take (i + 1) = ks.take i ++ [ks[i]] by rw [List.take_add_one, hl]; rfl)
      clear hk hs ho hl hz1 hz2
      generalize ks[i] = y at *
      go_upto_region 5 with fail
      have hwb : Below wr.heap.size wr (wr.alloc (.cells #[.int .i64 y.kind, .string y.name, .int .i64 y.num, .slice ka2 y.kids.length kc2, .slice na2 y.names.length nc2, .int .i64 y.at_] 30)) := (Below.refl _ _).alloc (Nat.le_refl _) _
      have hbk := heap_alloc_new wr (.cells #[.int .i64 y.kind, .string y.name, .int .i64 y.num, .slice ka2 y.kids.length kc2, .slice na2 y.names.length nc2, .int .i64 y.at_] 30)
      have hsz : (wr.alloc (.cells #[.int .i64 y.kind, .string y.name, .int .i64 y.num, .slice ka2 y.kids.length kc2, .slice na2 y.names.length nc2, .int .i64 y.at_] 30)).heap.size = wr.heap.size + 1 := by simp
      generalize (wr.alloc (.cells #[.int .i64 y.kind, .string y.name, .int .i64 y.num, .slice ka2 y.kids.length kc2, .slice na2 y.names.length nc2, .int .i64 y.at_] 30)) = wb at *
      have hu2 : w.heap.size + 2 < wr.heap.size := lt_of_cell cu
      have d5 : (wb.drew).cell? ⟨w.heap.size + 2, 5, none⟩ = some (.slice ua its.length uc) := (hwb.cell (p := ⟨w.heap.size + 2, 5, none⟩) hu2).trans cu
      have e0 : (wb.drew).cell? ⟨wr.heap.size, 0, none⟩ = some (.int .i64 y.kind) := cell_of_row wb _ _ _ _ _ hbk
      have e1 : (wb.drew).cell? ⟨wr.heap.size, 1, none⟩ = some (.string y.name) := cell_of_row wb _ _ _ _ _ hbk
      have e2 : (wb.drew).cell? ⟨wr.heap.size, 2, none⟩ = some (.int .i64 y.num) := cell_of_row wb _ _ _ _ _ hbk
      have e3 : (wb.drew).cell? ⟨wr.heap.size, 3, none⟩ = some (.slice ka2 y.kids.length kc2) := cell_of_row wb _ _ _ _ _ hbk
      have e4 : (wb.drew).cell? ⟨wr.heap.size, 4, none⟩ = some (.slice na2 y.names.length nc2) := cell_of_row wb _ _ _ _ _ hbk
      have e5 : (wb.drew).cell? ⟨wr.heap.size, 5, none⟩ = some (.int .i64 y.at_) := cell_of_row wb _ _ _ _ _ hbk
      have HBA := Lib.hid (show Below wr.heap.size wr wb.drew from hwb.drew)
      have SX := Lib.hid (show ∀ W, W = wb.drew → Calls Try.prog 48 #[.pointer (some ⟨p, 0, none⟩), .agg #[.int .i64 y.kind, .string y.name, .int .i64 y.num, .slice ka2 y.kids.length kc2, .slice na2 y.names.length nc2, .int .i64 y.at_], .bool false] W fun e w' => OnePost B W p kn fv gv F G d (f sl y) e w' from fun W hW => by
        subst hW
        exact HREC.out _ _ sl _ (HRR.out.later HBA.out) (HKI.out.later HBA.out) (HNI.out.later HBA.out) HOI.out)
      clear hwb hbk HREC
      cases hx : f sl y with
      | none =>
        rw [hx] at SX
        have HV := Lib.hid (show ((resLs f slots ks).map fun (r : List It × Nat) => ((.mk 16 noName 0 0 0 r.1 : It), r.2)) = none by
          have : resLs f slots ks = none := by
            rw [HTD.out (i + 1), HT.out]
            refine HNO.out _ _ _ ?_
            rw [HSN.out, HQ.out]
            simp [hx]
          rw [this]; rfl)
        clear hx
        go_region_dies
        all_goals
          refine (SX.out _ rfl).mono ?_
          rintro e w6 ⟨⟨at6, e', hne, rfl⟩, h6⟩
          exact ⟨rfl, OnePost.no HV.out ⟨e', hne, rfl⟩ (HB.out.trans ((below_down HBA.out (by omega)).trans h6))⟩
      | some r =>
        obtain ⟨it, s'⟩ := r
        rw [hx] at SX
        have HN := Lib.hid (show resLs f slots (ks.take (i + 1)) = some (its ++ [it], s') by
          rw [HT.out, HSN.out, HQ.out]
          simp [hx])
        clear hx
        go_region_law
          (first
            | (refine step_append_lies _ rfl (.tmp 17) (.tmp 21) 33 rfl w0.heap.size 73 iN _ 6 72 Try.underlying33 hiN nz0 nz1 nz2 rfl (by omega) (.slice ua its.length uc) its.length cs (by rfl) (HOW6.out _ ((Below.refl _ _).alloc (Nat.le_refl _) _)) ⟨_, 0, none⟩ 1 1 (itC it (.slice a6 it.kids.length c6)) (by rfl) rfl (World.news_of_block (cs := #[.int .i64 it.kind, .string it.name, .int .i64 it.num, .int .i64 it.slot, .int .i64 it.width, .slice a6 it.kids.length c6]) (heap_alloc_new _ _)) (by simp [itC, Value.oneCell']) (by omega) (by unfold maxLen; omega) (by omega) (by simp; omega) _ rfl ?_
               intro gg cap6 wF hownF hgrF hatF hltF
               have HOF := Lib.hid hownF
               have HFI := Lib.hid (HNX.out _ wF gg cap6 ((Below.refl _ _).alloc (Nat.le_refl _) _) hgrF hatF)
               obtain ⟨x1, x2⟩ := HZX.out _ wF ((Below.refl _ _).alloc (Nat.le_refl _) _) hgrF
               have HX1 := Lib.hid x1
               have HX2 := Lib.hid x2
               have y5 := cell_of_row wF (w.heap.size + 2) 5 _ _ _ x2
               have yf : wF.frozen? ⟨w.heap.size + 2, 5, none⟩ = false := (by unfold World.frozen?; rw [x2]; simp)
               simp at y5
               clear x1 x2 hownF hgrF hatF hltF)
            | (go_simp
               go_at_call 48
               refine (SX.out _ rfl).mono ?_
               rintro e w6 ⟨kv6, rfl, hit, hio, hr6, hk6, hb6⟩
               obtain ⟨a6, c6, rfl, -⟩ := id hit.shape
               have hz6 := hk6.size
               have hk7 : Kt p wr w6 := (Kt.of_below HBA.out (by omega)).trans hk6
               have hz7 := hk7.size
               have v1 := hk7.keep HRR.out HZ1.out (by decide) (by decide)
               have v2 := hk7.keep HRR.out HZ2.out (by decide) (by decide)
               have d6 := cell_of_row w6 (w.heap.size + 2) 5 _ _ _ v2
               simp at d6
               have d7 : (w6.alloc (.cells #[.int .i64 it.kind, .string it.name, .int .i64 it.num, .int .i64 it.slot, .int .i64 it.width, .slice a6 it.kids.length c6] 73)).cell? ⟨w.heap.size + 2, 5, none⟩ = some (.slice ua its.length uc) := (((Below.refl w6.heap.size w6).alloc (Nat.le_refl _) _).cell (p := ⟨w.heap.size + 2, 5, none⟩) (lt_of_cell d6)).trans d6
               have HOW6 := Lib.hid (show ∀ W, Below w6.heap.size w6 W → W.ownsRow w0.heap.size 73 6 (.slice ua its.length uc) its.length cs from fun W hW => own_grown HOW.out fun g hg => by
                 have hl2 := HOW.out.lt g hg
                 have ht : TyAt 73 wr g := by
                   rcases HOW.out.2 with ⟨hv, -⟩ | ⟨g', cap', cur, hv, -, hh, -⟩
                   · rw [hv] at hg; cases hg
                   · rw [hv] at hg
                     injection hg with e
                     have e' : g' = g := e
                     subst e'
                     exact ⟨_, _, hh⟩
                 obtain ⟨c', f', ht⟩ := ht
                 exact (hW.block g (by omega)).trans ((hk7.keep HRR.out ht (by decide) (by decide)).trans ht.symm))
               have HNX := Lib.hid (fun WA wF gg cap h7 hg hat => it_next2 (S0 := w0.heap.size) (WA := WA) (wF := wF) (gg := gg) (cap := cap) HRR.out hpw hBw (by omega) (by omega) HOW.out HIC.out HK.out HB.out HBA.out hk6 hb6 hr6 hit hio h7 hg hat)
               have HZX := Lib.hid (show ∀ WA wF, Below w6.heap.size w6 WA → WA.grownBy wF (Value.slice ua its.length uc).ownBlock → wF.heap[w.heap.size + 1]? = some (.cells #[.int .i64 0, .string ⟨#[]⟩, .int .i64 0, .int .i64 0, .int .i64 0, .slice none 0 0] 73 (0, 0)) ∧ wF.heap[w.heap.size + 2]? = some (.cells #[.int .i64 16, .string ⟨#[]⟩, .int .i64 0, .int .i64 0, .int .i64 0, (.slice ua its.length uc)] 73 (0, 0)) from fun WA wF h7 hg =>
                 ⟨(hg.block _ (by have := h7.size; omega) fun e => by have := (HOW.out.lt _ e.symm).1; omega).trans ((h7.block _ (by omega)).trans v1), (hg.block _ (by have := h7.size; omega) fun e => by have := (HOW.out.lt _ e.symm).1; omega).trans ((h7.block _ (by omega)).trans v2)⟩)
               clear hit hio hr6 hk6 hb6 hk7 v1 v2
               simp only [itV]))
        all_goals
          have BS := box_set hpw hBw (by omega) HFI.out.2.2.1 HFI.out.2.2.2 HFI.out.2.1 ⟨_, _, HX2.out⟩ (grownBy_set wF (w.heap.size + 2) 5 (.slice (some ⟨gg, 0, none⟩) (its.length + 1) cap6))
          have CS := casc_set (S0 := w0.heap.size) (Q := w.heap.size + 2) (by omega) (by have q := HOF.out; rw [show its.length + 1 = (its ++ [it]).length by simp] at q; exact q) (by have q := HFI.out.1; rw [show its.length + 1 = (its ++ [it]).length by simp] at q; exact q) (grownBy_set wF (w.heap.size + 2) 5 (.slice (some ⟨gg, 0, none⟩) (its.length + 1) cap6))
          have BX := Lib.hid BS
          have CX := Lib.hid CS
          have Z1 := Lib.hid ((heap_set_far (i := 5) (v := .slice (some ⟨gg, 0, none⟩) (its.length + 1) cap6) (show w.heap.size + 1 ≠ w.heap.size + 2 by omega)).trans HX1.out)
          have Z2 := Lib.hid (heap_set (i := 5) HX2.out (.slice (some ⟨gg, 0, none⟩) (its.length + 1) cap6))
          clear BS CS y5 yf
          go_wp2_with fail
          go_roundg (ks.length - (i + 1))
          case measure => rw [HGG.out]; omega
          case rel =>
            refine ⟨i + 1, (its ++ [it], s'), cs ++ itC it (.slice a6 it.kids.length c6), some ⟨gg, 0, none⟩, cap6, rfl, by omega, by go_num, HN.out, ⟨Z1.out, ?_⟩, CX.out.1, CX.out.2, BX.out.1, BX.out.2.1, BX.out.2.2⟩
            rw [List.length_append]
            exact Z2.out
    · have : i = ks.length := by omega
      subst this
      have HT : Hid (ks.take ks.length = ks) := Lib.hid List.take_length
      rw [HT.out] at HQ
      have HF := Lib.hid (show ItsX 73 (fun b => w0.heap.size ≤ b) (d + 1) wr (.slice ua its.length uc) its from HIC.out.items HOW.out (fun b h => h) fun g hg => (HOW.out.lt g hg).1)
      have o0 := cell_of_row wr (w.heap.size + 2) 0 _ _ _ hz2
      have o1 := cell_of_row wr (w.heap.size + 2) 1 _ _ _ hz2
      have o2 := cell_of_row wr (w.heap.size + 2) 2 _ _ _ hz2
      have o3 := cell_of_row wr (w.heap.size + 2) 3 _ _ _ hz2
      have o4 := cell_of_row wr (w.heap.size + 2) 4 _ _ _ hz2
      have y0 := cell_of_row wr (w.heap.size + 1) 0 _ _ _ hz1
      have y1 := cell_of_row wr (w.heap.size + 1) 1 _ _ _ hz1
      have y2 := cell_of_row wr (w.heap.size + 1) 2 _ _ _ hz1
      have y3 := cell_of_row wr (w.heap.size + 1) 3 _ _ _ hz1
      have y4 := cell_of_row wr (w.heap.size + 1) 4 _ _ _ hz1
      have y5 := cell_of_row wr (w.heap.size + 1) 5 _ _ _ hz1
      have yf : ∀ j, wr.frozen? ⟨w.heap.size + 1, j, none⟩ = false := (by intro j; unfold World.frozen?; rw [hz1]; simp)
      simp at o0 o1 o2 o3 o4 y0 y1 y2 y3 y4 y5
      clear hz1 hz2
      go_wp2_with fail
      refine bodyPost_ret (v := .agg #[.int .i64 16, .string noName, .int .i64 0, .int .i64 0, .int .i64 0, .slice ua its.length uc]) (results_cell_row Try.results49 _ _ (w.heap.size + 1) 73 #[.int .i64 16, .string noName, .int .i64 0, .int .i64 0, .int .i64 0, .slice ua its.length uc] (0, 0) _ rfl (heap_set6 HZ1.out _ _ _ _ _ _) Try.underlying73 rfl (by kernel_rfl)) rfl ?_
      have BG := grownBy_set6 wr (w.heap.size + 1) (.int .i64 16) (.string noName) (.int .i64 0) (.int .i64 0) (.int .i64 0) (.slice ua its.length uc)
      have BE := box_set hpw hBw (by omega) HK.out HB.out HRR.out ⟨_, _, HZ1.out⟩ BG
      refine OnePost.yes (i := .mk 16 noName 0 0 0 its) (s := sl) (by rw [HQ.out]; rfl) rfl ?_ trivial BE.1 BE.2.1 BE.2.2
      exact (HF.out.keep fun k hk hx _ => BG.block k hk fun e => by injection e with e; omega).weak fun b hb => by omega
end Go.Proofs.Ytpfgidhchjcomaa
