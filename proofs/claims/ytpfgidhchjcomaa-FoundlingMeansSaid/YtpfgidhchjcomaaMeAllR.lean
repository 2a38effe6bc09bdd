/- Nodes are resolved one behind another. -/
import Derived.Test.YtpfgidhchjcomaaMeVar
namespace Go.Proofs.Ytpfgidhchjcomaa
open Go.RowKit
set_option linter.unusedVariables false
theorem RsAt.grown {B : Nat} {w w' : World} {p : Nat} {kn : List Kn} {slots : Nat} {fv gv : Value} {F G : List ByteArray} (h : RsAt B w p kn slots fv gv F G) {r : Option Nat} (hg : w.grownBy w' r) (hr : ∀ g, r = some g → B ≤ g ∧ TyAt 73 w g) : RsAt B w' p kn slots fv gv F G := by
  have hty := h.ty
  have how := fun k => h.own (k := k)
  obtain ⟨⟨v, h1, h2⟩, h3, h4, h5, h6, h7, h8⟩ := h
  have hne : some p ≠ r := fun e => (hr p e.symm).2.ne hty (by decide) rfl
  have hv := cell_of_row w p 0 _ _ _ h1
  refine ⟨⟨v, (hg.block p hty.lt hne).trans h1, own_grown h2 fun g hg' => ?_⟩, ?_, ?_, h5, h6, h7, h8⟩
  · have ho := how g ⟨v, by simpa using hv, hg'⟩
    exact hg.block g ho.1.lt fun e => (hr g e.symm).2.ne ho.1 (by decide) rfl
  · exact h3.keep fun k hk hx => hg.block k hk fun e => by have := (hr k e.symm).1; omega
  · exact h4.keep fun k hk hx => hg.block k hk fun e => by have := (hr k e.symm).1; omega
theorem Kt.grown_new {p : Nat} {w WA wF : World} (h : Kt p w WA) {r : Option Nat} (hg : WA.grownBy wF r) (hr : ∀ g, r = some g → w.heap.size ≤ g) (hp : p < w.heap.size) : Kt p w wF := by
  have hs := h.size
  refine ⟨⟨hg.os.trans h.1.os, hg.tape.trans h.1.tape, hg.output.trans h.1.output, Nat.le_trans hs hg.size, fun k hk hS => ?_⟩, fun k ⟨v, e1, e2⟩ => ?_⟩
  · exact (hg.block k (by omega) fun e => by have := hr k e.symm; omega).trans (h.1.block k hk hS)
  · have e : wF.heap[p]? = WA.heap[p]? := hg.block p (by omega) fun e => by have := hr p e.symm; omega
    exact h.2 k ⟨v, (World.cell?_of_block (a := ⟨p, 0, none⟩) e).symm.trans e1, e2⟩
theorem below_down {B : Nat} {w w' : World} (h : Below w.heap.size w w') (hB : B ≤ w.heap.size) : Below B w w' := ⟨h.os, h.tape, h.output, h.size, fun k hk => h.block k (by omega)⟩
theorem resLs_len (f : Nat → Nd → Option (It × Nat)) : ∀ (l : List Nd) (s : Nat) (q : List It × Nat), resLs f s l = some q → q.1.length = l.length
  | [], s, q, h => by cases h; rfl
  | n :: l, s, q, h => by
    change (match f s n with | none => none | some r => (resLs f r.2 l).map fun (z : List It × Nat) => (r.1 :: z.1, z.2)) = some q at h
    cases hf : f s n with
    | none => rw [hf] at h; cases h
    | some r =>
      rw [hf] at h
      simp only at h
      cases hz : resLs f r.2 l with
      | none => rw [hz] at h; cases h
      | some z =>
        rw [hz] at h
        injection h with h
        subst h
        simp [resLs_len f l r.2 z hz]
theorem AlPost.no {B : Nat} {w : World} {p : Nat} {kn : List Kn} {fv gv : Value} {F G : List ByteArray} {d : Nat} {r : Option (List It × Nat)} {e : Ending} {w' : World} {at_ : Int} (hr : r = none) (h1 : Faulted at_ e) (h2 : Below B w w') : AlPost B w p kn fv gv F G d r e w' := by subst hr; exact ⟨⟨_, h1⟩, h2⟩
theorem AlPost.yes {B : Nat} {w : World} {p : Nat} {kn : List Kn} {fv gv v' : Value} {F G : List ByteArray} {d : Nat} {r : Option (List It × Nat)} {w' : World} {q : List It × Nat} (hr : r = some q) (h1 : ItsX 73 (fun b => w.heap.size ≤ b) d w' v' q.1) (h3 : RsAt B w' p kn q.2 fv gv F G) (h4 : Kt p w w') (h5 : Below B w w') : AlPost B w p kn fv gv F G d r (.returned v') w' := by
  subst hr
  exact ⟨v', rfl, h1, h3, h4, h5⟩
/-- what stands in a row of items that grows while nodes are resolved -/
theorem it_next {B p : Nat} {w wr W5 w6 WA wF : World} {kn : List Kn} {s1 s2 : Nat} {fv gv u kv : Value} {F G : List ByteArray} {d : Nat} {L : List It} {cs : List Value} {x : It} {gg cap : Nat}
    (hR : RsAt B wr p kn s1 fv gv F G) (hpw : p < w.heap.size) (hBw : B ≤ w.heap.size) (hO : wr.ownsRow w.heap.size 73 6 u L.length cs) (hC : ItCs 73 (fun b => w.heap.size ≤ b) d wr u L cs) (hk : Kt p w wr) (hb : Below B w wr)
    (h5 : Below wr.heap.size wr W5) (h6 : Kt p W5 w6) (h6b : Below B W5 w6) (hR6 : RsAt B w6 p kn s2 fv gv F G) (hx : ItsX 73 (fun b => W5.heap.size ≤ b) d w6 kv x.kids) (ho : ItOk x)
    (h7 : Below w6.heap.size w6 WA) (hg : WA.grownBy wF u.ownBlock) (hat : u.ownBlock = some gg ∨ gg = WA.heap.size) :
    ItCs 73 (fun b => w.heap.size ≤ b) d wF (.slice (some ⟨gg, 0, none⟩) (L.length + 1) cap) (L ++ [x]) (cs ++ itC x kv) ∧ RsAt B wF p kn s2 fv gv F G ∧ Kt p w wF ∧ Below B w wF := by
  have hws := hk.size
  have h5s := h5.size
  have h6s := h6.size
  have h7s := h7.size
  have hpr : p < wr.heap.size := by omega
  have hkt : Kt p wr w6 := (Kt.of_below h5 hpr).trans h6
  have hty : ∀ g, u.ownBlock = some g → TyAt 73 wr g := fun g hg => by
    rcases hO.2 with ⟨rfl, -⟩ | ⟨g', cap', cur, rfl, -, hh, -⟩
    · cases hg
    · injection hg with e
      have e' : g' = g := e
      subst e'
      exact ⟨_, _, hh⟩
  have hsame : ∀ k, k < wr.heap.size → TyAt 73 wr k → WA.heap[k]? = wr.heap[k]? := fun k hk ⟨c, f, ht⟩ => (h7.block k (by omega)).trans ((hkt.keep hR ht (by decide) (by decide)).trans ht.symm)
  have htyA : ∀ g, u.ownBlock = some g → TyAt 73 WA g := fun g hg => (hty g hg).of (hsame g (hty g hg).lt (hty g hg))
  have how : ∀ g, u.ownBlock = some g → w.heap.size ≤ g := fun g hg => (hO.lt g hg).1
  refine ⟨it_push hC (fun g hg => (hO.lt g hg).2) (fun k hk _ _ ht => hsame k hk ht) (by omega) ((hx.weak fun b hb => by omega).later h7) ho (fun b hb => by omega) hg hat, (hR6.later h7).grown hg fun g hg => ⟨by have := how g hg; omega, htyA g hg⟩, Kt.grown_new ((hk.trans hkt).trans (Kt.of_below h7 (by omega))) hg how hpw, ?_⟩
  exact ((((hb.trans (below_down h5 (by omega))).trans h6b).trans (below_down h7 (by omega))).grown hg (by omega) fun g hg => by have := how g hg; omega)
set_option maxRecDepth 100000 in
set_option maxHeartbeats 4000000 in
theorem all_step (f : Nat → Nd → Option (It × Nat)) (d : Nat) (B : Nat) (p : Nat) (kn : List Kn) (slots : Nat) (fv gv : Value) (F G : List ByteArray) (v : Value) (l : List Nd) (w : World) (h : RsAt B w p kn slots fv gv F G) (hl : NodesX (· < B) (d + 1) w v l) (hlen : l.length ≤ 200)
    (H : ∀ n kv nv s W, n ∈ l → RsAt B W p kn s fv gv F G → NodesX (· < B) d W kv n.kids → StrsX (· < B) W nv n.names → NdOk n → Calls Try.prog 28 #[.pointer (some ⟨p, 0, none⟩), ndV n kv nv] W fun e w' => OnePost B W p kn fv gv F G d (f s n) e w') :
    Calls Try.prog 13 #[.pointer (some ⟨p, 0, none⟩), v] w fun e w' => AlPost B w p kn fv gv F G (d + 1) (resLs f slots l) e w' := by
  obtain ⟨iN, hiN, nz0, nz1, nz2⟩ := info_parts itInfo
  obtain ⟨a, c, rfl, h1, h2, -⟩ := hl.shape
  have HS := Lib.hid hl
  have HH := Lib.hid H
  have HR0 := Lib.hid h
  have hpw := h.get.1
  have hBw : B ≤ w.heap.size := by have := h.pB; omega
  have HSN := Lib.hid (fun x r s => resLs_snoc f x r s)
  have HNO := Lib.hid (fun x r s => resLs_none f x r s)
  have HTD := Lib.hid (fun i => (List.take_append_drop i l).symm)
  clear hl H h
  go_enter Try.func13, Try.ntmps13
  go_wp2_with fail
  go_loopg [5, 7, 10] l.length (fun gg s5 s7 s10 wr => ∃ (i : Nat) (q : List It × Nat) (cs : List Value), gg = l.length - i ∧ i ≤ l.length ∧ s10 = .int .i64 (i : Int) ∧ resLs f slots (l.take i) = some q ∧ wr.ownsRow w.heap.size 73 6 s5 q.1.length cs ∧ ItCs 73 (fun b => w.heap.size ≤ b) d wr s5 q.1 cs ∧ RsAt B wr p kn q.2 fv gv F G ∧ Kt p w wr ∧ Below B w wr)
  case atStart => exact ⟨0, ([], slots), [], rfl, by omega, rfl, rfl, World.ownsRow_nil _ _ _ _, ItCs.nil _ _ _ _ _, HR0.out, Kt.refl _ _, Below.refl _ _⟩
  case round =>
    obtain ⟨i, ⟨its, sl⟩, cs, hg, hi, rfl, hq, hown, hic, hr, hkt, hb⟩ := hrel
    have HGG := Lib.hid hg
    have HQ := Lib.hid hq
    have HOW := Lib.hid hown
    have HIC := Lib.hid hic
    have HR := Lib.hid hr
    have HK := Lib.hid hkt
    have HB := Lib.hid hb
    have HSI := Lib.hid (show NodesX (· < B) (d + 1) wr (.slice a l.length c) l from HS.out.keep fun k _ hk => hb.block k hk)
    have hws := hb.size
    have hil : its.length ≤ 200 := by
      have := resLs_len f _ _ _ hq
      rw [List.length_take] at this
      simp only at this
      omega
    clear hg hq hown hic hr hkt hb
    by_cases hlt' : i < l.length
    · have hl := List.getElem?_eq_getElem hlt'
      obtain ⟨b, o, kv, nv, rfl, c0, c1, c2, c3, c4, c5, hk, hs, ho⟩ := HSI.out.at i _ hl
      obtain ⟨ka, kc, rfl, -⟩ := id hk.shape
      obtain ⟨na, nc, rfl, -⟩ := id hs
      have hba : Below wr.heap.size wr (wr.alloc (.cells #[.int .i64 l[i].kind, .string l[i].name, .int .i64 l[i].num, .slice ka l[i].kids.length kc, .slice na l[i].names.length nc, .int .i64 l[i].at_] 30)) := (Below.refl _ _).alloc (Nat.le_refl _) _
      have HBA := Lib.hid hba
      have PX := Lib.hid (HH.out l[i] _ _ sl (wr.alloc (.cells #[.int .i64 l[i].kind, .string l[i].name, .int .i64 l[i].num, .slice ka l[i].kids.length kc, .slice na l[i].names.length nc, .int .i64 l[i].at_] 30)) (List.getElem_mem hlt') (HR.out.later hba) (hk.later hba) (hs.later hba) ho)
      have HT := Lib.hid (show l.take (i + 1) = l.take i ++ [l[i]] by rw [List.take_add_one, hl]; rfl)
      clear hba hk hs ho hl
      cases hx : f sl l[i] with
      | none =>
        rw [hx] at PX
        have HN := Lib.hid (show resLs f slots l = none by
          rw [HTD.out (i + 1), HT.out]
          refine HNO.out _ _ _ ?_
          rw [HSN.out, HQ.out]
          simp [hx])
        clear hx
        generalize l[i] = s at *
        go_wp2_with fail
        refine PX.out.mono ?_
        rintro e w6 ⟨⟨at6, e', hne, rfl⟩, h6⟩
        have H6 := Lib.hid ((HB.out.trans (below_down HBA.out (by omega))).trans h6)
        clear h6
        go_wp2_with fail
        exact ⟨rfl, AlPost.no HN.out ⟨e', hne, rfl⟩ H6.out⟩
      | some r =>
        obtain ⟨it, s'⟩ := r
        rw [hx] at PX
        have HN := Lib.hid (show resLs f slots (l.take (i + 1)) = some (its ++ [it], s') by
          rw [HT.out, HSN.out, HQ.out]
          simp [hx])
        clear hx
        generalize l[i] = s at *
        go_wp2_with fail
        refine PX.out.mono ?_
        rintro e w6 ⟨kv6, rfl, hit, hio, hr6, hk6, hb6⟩
        obtain ⟨a6, c6, rfl, -⟩ := id hit.shape
        have hz6 := hk6.size
        simp at hz6
        have HOW6 := Lib.hid (show ∀ W, Below w6.heap.size w6 W → W.ownsRow w.heap.size 73 6 u5 its.length cs from fun W hW => own_grown HOW.out fun g hg => by
          have hl2 := HOW.out.lt g hg
          have ht : TyAt 73 wr g := by
            rcases HOW.out.2 with ⟨hv, -⟩ | ⟨g', cap', cur, hv, -, hh, -⟩
            · rw [hv] at hg; cases hg
            · rw [hv] at hg
              injection hg with e
              have e' : g' = g := e
              subst e'
              exact ⟨_, _, hh⟩
          obtain ⟨c', f', ht⟩ := ht
          exact (hW.block g (by omega)).trans ((((Kt.of_below HBA.out (by omega)).trans hk6).keep HR.out ht (by decide) (by decide)).trans ht.symm))
        have HNX := Lib.hid (fun WA wF gg cap h7 hg hat => it_next (WA := WA) (wF := wF) (gg := gg) (cap := cap) HR.out hpw hBw HOW.out HIC.out HK.out HB.out HBA.out hk6 hb6 hr6 hit hio h7 hg hat)
        clear hit hio hr6 hk6 hb6
        simp only [itV]
        go_wp2_with (refine wpList_append_lies _ rfl _ _ 33 rfl w.heap.size 73 iN _ 6 72 Try.underlying33 hiN nz0 nz1 nz2 rfl (by omega) u5 its.length cs rfl (HOW6.out _ ((Below.refl _ _).alloc (Nat.le_refl _) _)) ⟨_, 0, none⟩ 1 1 (itC it (.slice a6 it.kids.length c6)) rfl rfl (World.news_of_block (cs := #[.int .i64 it.kind, .string it.name, .int .i64 it.num, .int .i64 it.slot, .int .i64 it.width, .slice a6 it.kids.length c6]) (heap_alloc_new _ _)) (by simp [itC, Value.oneCell']) (by omega) (by unfold maxLen; omega) (by omega) (by simp; omega) _ rfl ?_; intro gg cap6 wF hownF hgrF hatF hltF)
        have HOF := Lib.hid hownF
        have HFI := Lib.hid (HNX.out _ wF gg cap6 ((Below.refl _ _).alloc (Nat.le_refl _) _) hgrF hatF)
        clear hownF hgrF hatF hltF
        go_roundg (l.length - (i + 1))
        case measure => rw [HGG.out]; omega
        case rel =>
          refine ⟨i + 1, (its ++ [it], s'), cs ++ itC it (.slice a6 it.kids.length c6), rfl, by omega, by go_num, HN.out, ?_, HFI.out.1, HFI.out.2.1, HFI.out.2.2.1, HFI.out.2.2.2⟩
          rw [List.length_append]
          exact HOF.out
    · have : i = l.length := by omega
      subst this
      have HT : Hid (l.take l.length = l) := Lib.hid List.take_length
      rw [HT.out] at HQ
      have HF := Lib.hid (show ItsX 73 (fun b => w.heap.size ≤ b) (d + 1) wr u5 its from HIC.out.items HOW.out (fun b h => h) fun g hg => (HOW.out.lt g hg).1)
      go_wp2_with fail
      go_ret
      exact AlPost.yes HQ.out HF.out HR.out HK.out HB.out
end Go.Proofs.Ytpfgidhchjcomaa
