/- Few: at most so many nodes, of at most so many within one another. -/
import Derived.Test.YtpfgidhchjcomaaMeCut
import Derived.Test.YtpfgidhchjcomaaMeSame
import Derived.Test.YtpfgidhchjcomaaMeSized
namespace Go.Proofs.Ytpfgidhchjcomaa
open Go.RowKit
set_option linter.unusedVariables false
def cutS (s : ByteArray) : ByteArray := if 5000 < s.size then s.extract 0 5000 else s
def cutN (n : Nd) (ks : List Nd) : Nd := .mk n.kind (cutS n.name) n.num ks (n.names.take 9) n.at_
def fewS (f : Nat → List Nd → List Nd × Nat) : Nat → List Nd → List Nd × Nat
  | n, [] => ([], n)
  | n, x :: l => if n = 0 then ([], n) else (cutN x (f (n - 1) x.kids).1 :: (fewS f (f (n - 1) x.kids).2 l).1, (fewS f (f (n - 1) x.kids).2 l).2)
def few : Nat → Nat → List Nd → List Nd × Nat
  | 0, n, _ => ([], n)
  | d + 1, n, l => fewS (few d) n l
theorem fewS_zero (f : Nat → List Nd → List Nd × Nat) (l : List Nd) : fewS f 0 l = ([], 0) := by
  cases l with
  | nil => rfl
  | cons x l => unfold fewS; rw [if_pos rfl]
theorem fewS_cons (f : Nat → List Nd → List Nd × Nat) (n : Nat) (hn : n ≠ 0) (x : Nd) (l : List Nd) : fewS f n (x :: l) = (cutN x (f (n - 1) x.kids).1 :: (fewS f (f (n - 1) x.kids).2 l).1, (fewS f (f (n - 1) x.kids).2 l).2) := by
  show (if n = 0 then _ else _) = _
  rw [if_neg hn]
theorem fewS_append (f : Nat → List Nd → List Nd × Nat) : ∀ (l r : List Nd) (n : Nat), fewS f n (l ++ r) = ((fewS f n l).1 ++ (fewS f (fewS f n l).2 r).1, (fewS f (fewS f n l).2 r).2)
  | [], r, n => rfl
  | x :: l, r, n => by
    by_cases hn : n = 0
    · subst hn
      rw [fewS_zero, fewS_zero, fewS_zero]; rfl
    · rw [List.cons_append, fewS_cons f n hn, fewS_cons f n hn, fewS_append f l r]
      rfl
theorem fewS_one (f : Nat → List Nd → List Nd × Nat) (n : Nat) (hn : n ≠ 0) (x : Nd) : fewS f n [x] = ([cutN x (f (n - 1) x.kids).1], (f (n - 1) x.kids).2) := by
  rw [fewS_cons f n hn]
  rfl
theorem fewS_le (f : Nat → List Nd → List Nd × Nat) (hf : ∀ m k, (f m k).2 ≤ m) : ∀ (l : List Nd) (n : Nat), (fewS f n l).1.length + (fewS f n l).2 ≤ n
  | [], n => by show 0 + n ≤ n; omega
  | x :: l, n => by
    by_cases hn : n = 0
    · subst hn; rw [fewS_zero]; exact Nat.le_refl _
    · rw [fewS_cons f n hn]
      have := fewS_le f hf l (f (n - 1) x.kids).2
      have := hf (n - 1) x.kids
      simp only [List.length_cons]
      omega
theorem few_le : ∀ (d n : Nat) (l : List Nd), (few d n l).2 ≤ n
  | 0, n, l => Nat.le_refl _
  | d + 1, n, l => by
    have h := fewS_le (few d) (few_le d) l n
    show (fewS (few d) n l).2 ≤ n
    omega
def FewPost (p : Nat) (x : Nat → Prop) (d : Nat) (w : World) (q : List Nd × Nat) (e : Ending) (w' : World) : Prop := ∃ v', e = .returned v' ∧ NodesX (fun b => x b ∨ w.heap.size ≤ b) d w' v' q.1 ∧ SzP p w w' (q.2 : Int)
/-- a node more: behind the call for its kids, the store into its box, the append -/
theorem few_next {p : Nat} {x : Nat → Prop} {d : Nat} {w wr wc w6 w7 wA : World} {u v6 qv : Value} {L : List Nd} {cs : List Value} {S : Nd} {m2 : Int}
    (hxp : ∀ k, x k → ¬ k = p) (hxw : ∀ b, x b → b < w.heap.size) (hpw : p < w.heap.size) (hz : Ex (· = p) w wr)
    (hO : wr.ownsRow w.heap.size 43 6 u L.length cs) (hC : NdCs (fun b => x b ∨ w.heap.size ≤ b) d wr u L cs)
    (hE : Ex (fun k => k = p ∨ k = wr.heap.size) wr wc) (hlc : wr.heap.size < wc.heap.size) (h6 : SzP p wc w6 m2)
    (hk : NodesX (fun b => x b ∨ wc.heap.size ≤ b) d w6 v6 S.kids) (hs : StrsX x wc qv S.names) (ho : NdOk S)
    (h7 : Ex (fun k => k = wr.heap.size) w6 w7) (hA : Below w7.heap.size w7 wA) :
    wA.ownsRow w.heap.size 43 6 u L.length cs ∧ ∀ wF gg n cap, wA.grownBy wF u.ownBlock → (u.ownBlock = some gg ∨ gg = wA.heap.size) →
      NdCs (fun b => x b ∨ w.heap.size ≤ b) d wF (.slice (some ⟨gg, 0, none⟩) n cap) (L ++ [S]) (cs ++ ndC S v6 qv) ∧ SzP p w wF m2 := by
  have hwr := hz.size
  have z6 := h6.1.size
  have z7 := h7.size
  have zA := hA.size
  have hp6 := h6.2.1
  have hf6 := h6.2.2
  have EA : Ex (fun k => k = p ∨ k = wr.heap.size) wr wA := (hE.trans (h6.1.mono fun k _ e => Or.inl e)).trans ((h7.mono fun k _ e => Or.inr e).trans (Ex.of_below hA))
  have hown : wA.ownsRow w.heap.size 43 6 u L.length cs := own_grown hO fun g hg => EA.block g (hO.lt g hg).2 (by have := hO.lt g hg; omega)
  refine ⟨hown, fun wF gg n cap hg hat => ⟨?_, ?_⟩⟩
  · have h1 : NdCs (fun b => x b ∨ w.heap.size ≤ b) d wA u L cs := hC.keep fun k hk hP _ => EA.block k hk (by
      rintro (e | e)
      · rcases hP with hP | hP
        · exact hxp k hP e
        · omega
      · omega)
    have hne : ∀ b, (x b ∨ wc.heap.size ≤ b) → some b ≠ u.ownBlock := fun b hb e => by
      have h2 := hO.lt b e.symm
      rcases hb with hb | hb
      · have := hxw b hb; omega
      · omega
    have hbx : ∀ b, (x b ∨ wc.heap.size ≤ b) → ¬ b = wr.heap.size := fun b hb e => by
      rcases hb with hb | hb
      · have := hxw b hb; omega
      · omega
    refine h1.push (((hk.ex h7 hbx).later hA).weak fun b hb => ⟨hb.imp id fun h => by omega, hne b hb⟩) (((((hs.ex h6.1 hxp).ex h7 fun k hk => hbx k (Or.inl hk)).later hA)).weak fun b hb => ⟨Or.inl hb, hne b (Or.inl hb)⟩) ho hg ?_
    rcases hat with h | h
    · exact Or.inl h.symm
    · exact Or.inr ⟨gg, rfl, by omega⟩
  · have hpc : p < wc.heap.size := by omega
    have hp7 : p < w6.heap.size := by omega
    have hne : some p ≠ u.ownBlock := fun e => by have := hO.lt p e.symm; omega
    have e7 : w7.heap[p]? = w6.heap[p]? := h7.block p hp7 (by omega)
    have eA : wA.heap[p]? = w7.heap[p]? := hA.block p (by omega)
    have eF : wF.heap[p]? = wA.heap[p]? := hg.block p (by omega) hne
    have eq : wF.heap[p]? = w6.heap[p]? := eF.trans (eA.trans e7)
    refine ⟨⟨hg.os.trans (EA.os.trans hz.os), hg.tape.trans (EA.tape.trans hz.tape), hg.output.trans (EA.output.trans hz.output), Nat.le_trans (Nat.le_trans hwr EA.size) hg.size, fun k hk hS => ?_⟩, (World.cell?_of_block (a := ⟨p, 0, none⟩) eq).trans hp6, ?_⟩
    · exact (hg.block k (by have := EA.size; omega) fun e => by have := hO.lt k e.symm; omega).trans ((EA.block k (by omega) (by rintro (e | e); exact hS e; omega)).trans (hz.block k hk hS))
    · rw [← hf6]; exact World.frozen?_of_block (a := ⟨p, 0, none⟩) eq
set_option maxRecDepth 100000 in
set_option maxHeartbeats 4000000 in
theorem few_step (p : Nat) (x : Nat → Prop) (hx : ¬ x p) (d D : Nat) (v : Value) (l : List Nd) (n : Nat) (w : World) (hxw : ∀ b, x b → b < w.heap.size) (hn : n ≤ 200) (hd : d ≤ 60) (h : NodesX x (D + 1) w v l) (hp : w.cell? ⟨p, 0, none⟩ = some (.int .i64 (n : Int))) (hf : w.frozen? ⟨p, 0, none⟩ = false)
    (f : Nat → List Nd → List Nd × Nat) (hfl : ∀ m k, (f m k).2 ≤ m)
    (H : ∀ k kv' W (m : Nat), k ∈ l → m ≤ 200 → w.heap.size ≤ W.heap.size → NodesX x D W kv' k.kids → W.cell? ⟨p, 0, none⟩ = some (.int .i64 (m : Int)) → W.frozen? ⟨p, 0, none⟩ = false → Calls Try.prog 14 #[kv', .pointer (some ⟨p, 0, none⟩), .int .i64 (d : Int)] W fun e w' => FewPost p x d W (f m k.kids) e w') :
    Calls Try.prog 14 #[v, .pointer (some ⟨p, 0, none⟩), .int .i64 ((d : Int) + 1)] w fun e w' => FewPost p x (d + 1) w (fewS f n l) e w' := by
  obtain ⟨iN, hiN, nz0, nz1, nz2⟩ := info_parts rndInfo
  obtain ⟨va, c, rfl, h1, h2, -⟩ := h.shape
  have hmax : l.length ≤ 9223372036854775807 := Nat.le_trans h1 h2
  have HS := Lib.hid h
  have HH := Lib.hid H
  have hlp := lt_of_cell hp
  have hxp : ∀ k, x k → ¬ k = p := fun k hk e => hx (e ▸ hk)
  have HX := Lib.hid hxp
  have HXW := Lib.hid hxw
  have HFL := Lib.hid hfl
  have HP0 := Lib.hid (show SzP p w w (n : Int) from ⟨Ex.refl _ _, hp, hf⟩)
  have HLE : Hid (∀ i, (fewS f n (l.take i)).1.length + (fewS f n (l.take i)).2 ≤ n) := Lib.hid fun i => fewS_le f hfl _ _
  have HDR : Hid (∀ i, fewS f n l = ((fewS f n (l.take i)).1 ++ (fewS f (fewS f n (l.take i)).2 (l.drop i)).1, (fewS f (fewS f n (l.take i)).2 (l.drop i)).2)) := Lib.hid fun i => by rw [← fewS_append, List.take_append_drop]
  clear h H hx hxp hxw hfl hp hf
  go_enter Try.func14, Try.ntmps14
  go_wp2_with fail
  go_loopg [7, 12] l.length (fun gg s7 s12 wr => ∃ (i : Nat) (cs : List Value), gg = l.length - i ∧ i ≤ l.length ∧ s12 = .int .i64 (i : Int) ∧ wr.ownsRow w.heap.size 43 6 s7 (fewS f n (l.take i)).1.length cs ∧ NdCs (fun b => x b ∨ w.heap.size ≤ b) d wr s7 (fewS f n (l.take i)).1 cs ∧ SzP p w wr ((fewS f n (l.take i)).2 : Int))
  case atStart => exact ⟨0, [], rfl, by omega, rfl, World.ownsRow_nil _ _ _ _, NdCs.nil _ _ _ _, HP0.out⟩
  case round =>
    obtain ⟨i, cs, hg, hi, rfl, hown, hnc, hz⟩ := hrel
    have HGG := Lib.hid hg
    have HOW := Lib.hid hown
    have HNC := Lib.hid hnc
    have HZ := Lib.hid hz
    have hp := hz.2.1
    have hf := hz.2.2
    have hlr := lt_of_cell hp
    have hwr := hz.1.size
    have HSI := Lib.hid (HS.out.ex hz.1 HX.out)
    have hle := HLE.out i
    have HD := Lib.hid (HDR.out i)
    clear hg hown hnc hz
    by_cases hlt' : i < l.length
    · have HLT := Lib.hid hlt'
      have hl' := List.getElem?_eq_getElem hlt'
      obtain ⟨b, o, kv, nv, rfl, c0, c1, c2, c3, c4, c5, hk, hs, ho⟩ := HSI.out.at i _ hl'
      obtain ⟨ka, kc, rfl, -⟩ := id hk.shape
      obtain ⟨na, nc, rfl, -⟩ := id hs
      have HT := Lib.hid (show fewS f n (l.take (i + 1)) = ((fewS f n (l.take i)).1 ++ (fewS f (fewS f n (l.take i)).2 [l[i]]).1, (fewS f (fewS f n (l.take i)).2 [l[i]]).2) by rw [← fewS_append, List.take_add_one, hl']; rfl)
      have HREC := Lib.hid (fun kv' W (m : Nat) => HH.out l[i] kv' W m (List.getElem_mem hlt'))
      have HKD := Lib.hid hk
      have HND := Lib.hid hs
      have HNK := Lib.hid ho
      clear hl' hk hs ho
      generalize l[i] = s at *
      generalize hq : fewS f n (l.take i) = q at *
      obtain ⟨L, m⟩ := q
      have hq' := Lib.hid hq
      clear hq
      dsimp only at *
      cases m with
      | zero =>
        go_wp2_with fail
        go_ret
        have hb := (Below.refl wr.heap.size wr).alloc (Nat.le_refl _) (.cells #[.int .i64 s.kind, .string s.name, .int .i64 s.num, .slice ka s.kids.length kc, .slice na s.names.length nc, .int .i64 s.at_] 43)
        have h1 := HD.out
        rw [fewS_zero, List.append_nil] at h1
        have h2 := HNC.out.nodes (Q := fun b => x b ∨ w.heap.size ≤ b) HOW.out (fun b h => h) fun g hg => Or.inr (HOW.out.lt g hg).1
        rw [h1]
        exact ⟨_, rfl, h2.later hb, SzP.trans HZ.out (SzP.keep hb hp hf)⟩
      | succ m =>
        have hp' : wr.cell? ⟨p, 0, none⟩ = some (.int .i64 ((m : Int) + 1)) := by rw [hp]; simp
        clear hp
        have hm0 : decide ((m : Int) + 1 ≤ 0) = false := decide_eq_false (by omega)
        have hd0 : decide ((d : Int) + 1 ≤ 0) = false := decide_eq_false (by omega)
        have hm1 : (m : Int) + 1 - 1 = m := by omega
        have hd1 : (d : Int) + 1 - 1 = d := by omega
        have hm200 : m ≤ 200 := by omega
        go_upto_region 7 with fail
        have z2 : ((wr.setCell ⟨p, 0, none⟩ (.int .i64 (m : Int))).alloc (.cells #[.int .i64 s.kind, .string s.name, .int .i64 s.num, .slice ka s.kids.length kc, .slice na s.names.length nc, .int .i64 s.at_] 43)).heap.size = wr.heap.size + 1 := by simp
        have g1 : ((wr.setCell ⟨p, 0, none⟩ (.int .i64 (m : Int))).alloc (.cells #[.int .i64 s.kind, .string s.name, .int .i64 s.num, .slice ka s.kids.length kc, .slice na s.names.length nc, .int .i64 s.at_] 43)).heap[wr.heap.size]? = some (.cells #[.int .i64 s.kind, .string s.name, .int .i64 s.num, .slice ka s.kids.length kc, .slice na s.names.length nc, .int .i64 s.at_] 43) := by
          have := heap_alloc_new (wr.setCell ⟨p, 0, none⟩ (.int .i64 (m : Int))) (.cells #[.int .i64 s.kind, .string s.name, .int .i64 s.num, .slice ka s.kids.length kc, .slice na s.names.length nc, .int .i64 s.at_] 43)
          simpa using this
        have hps : (wr.setCell ⟨p, 0, none⟩ (.int .i64 (m : Int))).cell? ⟨p, 0, none⟩ = some (.int .i64 (m : Int)) := World.cell?_setCell_same' _ _ _ (by rw [hp']; rfl)
        have g2 : ((wr.setCell ⟨p, 0, none⟩ (.int .i64 (m : Int))).alloc (.cells #[.int .i64 s.kind, .string s.name, .int .i64 s.num, .slice ka s.kids.length kc, .slice na s.names.length nc, .int .i64 s.at_] 43)).cell? ⟨p, 0, none⟩ = some (.int .i64 (m : Int)) := (World.cell?_alloc_lt _ _ _ (by simpa using hlr)).trans hps
        have g3 : ((wr.setCell ⟨p, 0, none⟩ (.int .i64 (m : Int))).alloc (.cells #[.int .i64 s.kind, .string s.name, .int .i64 s.num, .slice ka s.kids.length kc, .slice na s.names.length nc, .int .i64 s.at_] 43)).frozen? ⟨p, 0, none⟩ = false := by
          rw [World.frozen?_alloc_old _ _ _ (by simp; omega)]
          simpa using hf
        have hE2 : Ex (· = p) wr ((wr.setCell ⟨p, 0, none⟩ (.int .i64 (m : Int))).alloc (.cells #[.int .i64 s.kind, .string s.name, .int .i64 s.num, .slice ka s.kids.length kc, .slice na s.names.length nc, .int .i64 s.at_] 43)) := (Ex.set (p := p) (o := 0) wr (.int .i64 (m : Int))).trans (Ex.of_below ((Below.refl _ _).alloc (Nat.le_refl _) _))
        generalize ((wr.setCell ⟨p, 0, none⟩ (.int .i64 (m : Int))).alloc (.cells #[.int .i64 s.kind, .string s.name, .int .i64 s.num, .slice ka s.kids.length kc, .slice na s.names.length nc, .int .i64 s.at_] 43)) = w2 at *
        have k0 := cell_of_row w2 wr.heap.size 0 _ _ _ g1
        have k1 := cell_of_row w2 wr.heap.size 1 _ _ _ g1
        have k2 := cell_of_row w2 wr.heap.size 2 _ _ _ g1
        have k3 := cell_of_row w2 wr.heap.size 3 _ _ _ g1
        have k4 := cell_of_row w2 wr.heap.size 4 _ _ _ g1
        have k5 := cell_of_row w2 wr.heap.size 5 _ _ _ g1
        have kf : ∀ j, w2.frozen? ⟨wr.heap.size, j, none⟩ = false := (by intro j; unfold World.frozen?; rw [g1]; simp)
        simp at k0 k1 k2 k3 k4 k5
        have G1 := Lib.hid g1
        have G2 := Lib.hid g2
        have G3 := Lib.hid g3
        have HE2 := Lib.hid hE2
        clear g1 g2 g3 hps hE2 hp' hf
        go_upto_if 32 with fail
        go_cut [] from 13 to 56 (fun wx => wx.heap[wr.heap.size]? = some (.cells #[.int .i64 s.kind, .string (cutS s.name), .int .i64 s.num, .slice ka s.kids.length kc, .slice na s.names.length nc, .int .i64 s.at_] 43 (0, 0)) ∧ Ex (fun k => k = wr.heap.size) w2 wx)
        case first =>
          by_cases h5 : 5000 < s.name.size
          · have hcs : cutS s.name = s.name.extract 0 5000 := if_pos h5
            have hd5 : decide ((5000 : Int) < (s.name.size : Int)) = true := decide_eq_true (by omega)
            have HCS := Lib.hid hcs
            clear hcs
            go_wp2_with fail
            go_meet
            case rel =>
              rw [HCS.out]
              exact ⟨by simpa using heap_set (i := 1) G1.out (.string (s.name.extract 0 5000)), Ex.set w2 _⟩
          · have hcs : cutS s.name = s.name := if_neg h5
            have hd5 : decide ((5000 : Int) < (s.name.size : Int)) = false := decide_eq_false (by omega)
            have HCS := Lib.hid hcs
            clear hcs
            go_wp2_with fail
            go_meet
            case rel =>
              rw [HCS.out]
              exact ⟨G1.out, Ex.refl _ _⟩
        rename World => w3
        obtain ⟨r1, e1⟩ := hcut
        have z3 := e1.size
        clear k0 k1 k2 k3 k4 k5 kf
        have k3 := cell_of_row w3 wr.heap.size 3 _ _ _ r1
        have k4 := cell_of_row w3 wr.heap.size 4 _ _ _ r1
        have kf : ∀ j, w3.frozen? ⟨wr.heap.size, j, none⟩ = false := (by intro j; unfold World.frozen?; rw [r1]; simp)
        simp at k3 k4
        have HNW := Lib.hid (show StrsX x w3 (.slice na s.names.length nc) s.names from (HND.out.ex HE2.out HX.out).ex e1 (fun k hk e => by have := HXW.out k hk; omega))
        have R1 := Lib.hid r1
        have E1 := Lib.hid e1
        clear r1 e1
        go_upto_if 40 with fail
        go_cut [] from 13 to 56 (fun wx => ∃ qa qc, wx.heap[wr.heap.size]? = some (.cells #[.int .i64 s.kind, .string (cutS s.name), .int .i64 s.num, .slice ka s.kids.length kc, .slice qa (s.names.take 9).length qc, .int .i64 s.at_] 43 (0, 0)) ∧ StrsX x wx (.slice qa (s.names.take 9).length qc) (s.names.take 9) ∧ Ex (fun k => k = wr.heap.size) w3 wx)
        case first =>
          by_cases h9 : 9 < s.names.length
          · have hd9 : decide ((9 : Int) < (s.names.length : Int)) = true := decide_eq_true (by omega)
            obtain ⟨pv, hpv, hrun⟩ := strs_head HNW.out 9 (by omega)
            obtain ⟨qa, qc, rfl, -⟩ := id hpv
            have HPV := Lib.hid hpv
            have HTL : Hid ((s.names.take 9).length = 9) := Lib.hid (by rw [List.length_take]; omega)
            rw [HTL.out] at hrun
            have hrun' : ∀ W, (Instr.slice 22 (.slice na s.names.length nc) none (some (.int .i64 9)) none).run Try.prog W = .ok (.slice qa 9 qc) W := hrun
            clear hpv hrun
            go_wp2_with fail
            go_meet
            case rel =>
              rw [HTL.out]
              have h9' := HPV.out
              rw [HTL.out] at h9'
              exact ⟨qa, qc, by simpa using heap_set (i := 4) R1.out (.slice qa 9 qc), h9'.ex (Ex.set (p := wr.heap.size) (o := 4) w3 (.slice qa 9 qc)) (fun k hk e => by have := HXW.out k hk; omega), Ex.set w3 _⟩
          · have hd9 : decide ((9 : Int) < (s.names.length : Int)) = false := decide_eq_false (by omega)
            have HTL : Hid (s.names.take 9 = s.names) := Lib.hid (List.take_of_length_le (by omega))
            go_wp2_with fail
            go_meet
            case rel =>
              rw [HTL.out]
              exact ⟨na, nc, R1.out, HNW.out, Ex.refl _ _⟩
        obtain ⟨qa, qc, r2, hst, e2⟩ := hcut
        generalize hnl : s.names.take 9 = nl at *
        generalize hfm : f m s.kids = fm at *
        obtain ⟨fk, m2⟩ := fm
        have HNL := Lib.hid hnl
        have HFM := Lib.hid hfm
        clear hnl hfm
        have hEc : Ex (fun k => k = p ∨ k = wr.heap.size) wr wc := (HE2.out.mono fun k _ e => Or.inl e).trans ((E1.out.mono fun k _ e => Or.inr e).trans (e2.mono fun k _ e => Or.inr e))
        have z4 := e2.size
        have hlc : wr.heap.size < wc.heap.size := by omega
        have hpc : wc.cell? ⟨p, 0, none⟩ = some (.int .i64 (m : Int)) := (e2.cell (by omega) (by omega)).trans ((E1.out.cell (by omega) (by omega)).trans G2.out)
        have hfc : wc.frozen? ⟨p, 0, none⟩ = false := (World.frozen?_of_block (a := ⟨p, 0, none⟩) (e2.block p (by omega) (by omega))).trans ((World.frozen?_of_block (a := ⟨p, 0, none⟩) (E1.out.block p (by omega) (by omega))).trans G3.out)
        have hkc : NodesX x D wc (.slice ka s.kids.length kc) s.kids := ((HKD.out.ex HE2.out HX.out).ex E1.out (fun k hk e => by have := HXW.out k hk; omega)).ex e2 (fun k hk e => by have := HXW.out k hk; omega)
        have PX := Lib.hid (HREC.out _ wc m hm200 (by omega) hkc hpc hfc)
        rw [HFM.out] at PX
        clear k3 k4 kf
        have k3 := cell_of_row wc wr.heap.size 3 _ _ _ r2
        simp at k3
        have R2 := Lib.hid r2
        have HEC := Lib.hid hEc
        have HST := Lib.hid hst
        clear r2 hst e2 hEc hpc hfc hkc z3 z4
        go_upto_region 11 with fail
        have HNS := Lib.hid (show NdOk (.mk s.kind (cutS s.name) s.num fk nl s.at_) from ⟨HNK.out.1, HNK.out.2.1, HNK.out.2.2.1, by
          have h1 : s.name.size ≤ maxLen := HNK.out.2.2.2
          show (cutS s.name).size ≤ maxLen
          unfold cutS
          split
          · rw [ByteArray.size_extract]; omega
          · exact h1⟩)
        go_wp2_with fail
        refine PX.out.mono ?_
        rintro e w6 ⟨v6, rfl, hn6, hz6⟩
        replace hn6 : NodesX (fun b => x b ∨ wc.heap.size ≤ b) d w6 v6 fk := hn6
        obtain ⟨a6, c6, rfl, -⟩ := id hn6.shape
        have HN6 := Lib.hid hn6
        have HZ6 := Lib.hid hz6
        have t6 := (hz6.1.block wr.heap.size (by omega) (by omega)).trans R2.out
        clear hn6 hz6
        have y3 := cell_of_row w6 wr.heap.size 3 _ _ _ t6
        have yf : ∀ j, w6.frozen? ⟨wr.heap.size, j, none⟩ = false := (by intro j; unfold World.frozen?; rw [t6]; simp)
        simp at y3
        have t7 : (w6.setCell ⟨wr.heap.size, 3, none⟩ (.slice a6 fk.length c6)).heap[wr.heap.size]? = some (.cells #[.int .i64 s.kind, .string (cutS s.name), .int .i64 s.num, .slice a6 fk.length c6, .slice qa nl.length qc, .int .i64 s.at_] 43 (0, 0)) := by simpa using heap_set (i := 3) t6 (.slice a6 fk.length c6)
        have h7 : Ex (fun k => k = wr.heap.size) w6 (w6.setCell ⟨wr.heap.size, 3, none⟩ (.slice a6 fk.length c6)) := Ex.set w6 _
        have hz7 : wr.heap.size ≤ w6.heap.size := (by have := HZ6.out.1.size; omega)
        have z7 := h7.size
        clear t6
        go_upto_region 12 with fail
        generalize (w6.setCell ⟨wr.heap.size, 3, none⟩ (.slice a6 fk.length c6)) = w7 at *
        have FN := Lib.hid (fun wA (hA : Below w7.heap.size w7 wA) => few_next (S := .mk s.kind (cutS s.name) s.num fk nl s.at_) HX.out HXW.out hlp HZ.out.1 HOW.out HNC.out HEC.out hlc HZ6.out HN6.out HST.out HNS.out h7 hA)
        clear y3 yf
        have y0 := cell_of_row w7 wr.heap.size 0 _ _ _ t7
        have y1 := cell_of_row w7 wr.heap.size 1 _ _ _ t7
        have y2 := cell_of_row w7 wr.heap.size 2 _ _ _ t7
        have y3 := cell_of_row w7 wr.heap.size 3 _ _ _ t7
        have y4 := cell_of_row w7 wr.heap.size 4 _ _ _ t7
        have y5 := cell_of_row w7 wr.heap.size 5 _ _ _ t7
        simp at y0 y1 y2 y3 y4 y5
        clear t7 h7
        go_wp2_with (refine wpList_append_lies _ rfl _ _ 23 rfl w.heap.size 43 iN _ 6 88 Try.underlying23 hiN nz0 nz1 nz2 rfl (by omega) u7 L.length cs rfl (FN.out _ ((Below.refl _ _).alloc (Nat.le_refl _) _)).1 ⟨_, 0, none⟩ 1 1 (ndC (.mk s.kind (cutS s.name) s.num fk nl s.at_) (.slice a6 fk.length c6) (.slice qa nl.length qc)) rfl rfl (World.news_of_block (cs := #[.int .i64 s.kind, .string (cutS s.name), .int .i64 s.num, .slice a6 fk.length c6, .slice qa nl.length qc, .int .i64 s.at_]) (heap_alloc_new _ _)) (by simp [ndC, Value.oneCell']) (by omega) (by unfold maxLen; omega) (by omega) (by simp; omega) _ rfl ?_; intro gg cap6 wF hownF hgrF hatF hltF)
        have HOF := Lib.hid hownF
        have HFI := Lib.hid ((FN.out _ ((Below.refl _ _).alloc (Nat.le_refl _) _)).2 wF gg (L.length + 1) cap6 hgrF hatF)
        clear hownF hgrF hatF hltF
        go_roundg (l.length - (i + 1))
        case measure => rw [HGG.out]; omega
        case rel =>
          have hT := HT.out
          rw [fewS_one f (m + 1) (by omega), Nat.add_sub_cancel, HFM.out] at hT
          unfold cutN at hT
          rw [HNL.out] at hT
          have hltb := HLT.out
          refine ⟨i + 1, cs ++ ndC (.mk s.kind (cutS s.name) s.num fk nl s.at_) (.slice a6 fk.length c6) (.slice qa nl.length qc), rfl, (by have := HLT.out; omega), by go_num, ?_, ?_, ?_⟩
          · rw [hT, List.length_append]
            exact HOF.out
          · rw [hT]
            exact HFI.out.1
          · rw [hT]
            exact HFI.out.2
    · have : i = l.length := by omega
      subst this
      have HTL : Hid (l.take l.length = l) := Lib.hid List.take_length
      have h2 := HNC.out.nodes (Q := fun b => x b ∨ w.heap.size ≤ b) HOW.out (fun b h => h) fun g hg => Or.inr (HOW.out.lt g hg).1
      have H2 := Lib.hid (show FewPost p x (d + 1) w (fewS f n l) (.returned u7) wr by
        have h3 := HZ.out
        rw [HTL.out] at h2 h3
        exact ⟨_, rfl, h2, h3⟩)
      clear h2
      go_wp2_with fail
      go_ret
      exact H2.out
end Go.Proofs.Ytpfgidhchjcomaa
