/- All: all nodes of a method, each ahead of its kids. -/
import Derived.Test.YtpfgidhchjcomaaMeOwn
namespace Go.Proofs.Ytpfgidhchjcomaa
open Go.RowKit
set_option linter.unusedVariables false
theorem nds_flat {x : Nat → Prop} {d : Nat} {w : World} {b o c : Nat} {l : List Nd} (h : NodesX x (d + 1) w (.slice (some ⟨b, o, none⟩) l.length c) l) : ∀ m, m ≤ l.length → ∃ news : List Value, news.length = m * 6 ∧ (∀ j u, news[j]? = some u → w.cell? ⟨b, o + j, none⟩ = some u) ∧ (∀ u, u ∈ news → u.oneCell' = true) ∧ ∀ i n, i < m → l[i]? = some n → ∃ kv nv, (∀ j, j < 6 → news[i * 6 + j]? = (ndC n kv nv)[j]?) ∧ NodesX x d w kv n.kids ∧ StrsX x w nv n.names ∧ NdOk n
  | 0, _ => ⟨[], rfl, fun j u h => by simp at h, fun u h => (by cases h), fun i n h => absurd h (Nat.not_lt_zero _)⟩
  | m + 1, hm => by
    obtain ⟨news, h1, h2, h3, h4⟩ := nds_flat h m (by omega)
    have hlt : m < l.length := by omega
    obtain ⟨a', c', hv, -, -, -, h5⟩ := id h
    injection hv with e1 e2 e3
    obtain ⟨b', o', kv, nv, ha, -, hc, hk, hs, ho⟩ := h5 m _ (List.getElem?_eq_getElem hlt)
    rw [← e1] at ha
    injection ha with ha
    injection ha with hb ho' _
    subst hb; subst ho'
    obtain ⟨ka, kc, hkv, -⟩ := hk.shape
    obtain ⟨na, nc, hnv, -⟩ := id hs
    refine ⟨news ++ ndC l[m] kv nv, by rw [List.length_append, h1]; show m * 6 + 6 = _; omega, fun j u hj => ?_, fun u hu => ?_, fun i n hi hn => ?_⟩
    · by_cases hjm : j < m * 6
      · rw [List.getElem?_append_left (by omega)] at hj
        exact h2 j u hj
      · rw [List.getElem?_append_right (by omega), h1] at hj
        have hj6 : j - m * 6 < 6 := by
          have := (List.getElem?_eq_some_iff.1 hj).1
          exact this
        rw [← hj, ← hc _ hj6]
        congr 2
        omega
    · rcases List.mem_append.1 hu with hu | hu
      · exact h3 u hu
      · subst hkv
        subst hnv
        simp [ndC] at hu
        rcases hu with rfl | rfl | rfl | rfl | rfl | rfl <;> rfl
    · by_cases him : i < m
      · obtain ⟨kv', nv', q1, q2⟩ := h4 i n him hn
        exact ⟨kv', nv', fun j hj => by rw [List.getElem?_append_left (by omega)]; exact q1 j hj, q2⟩
      · obtain rfl : i = m := by omega
        rw [List.getElem?_eq_getElem hlt] at hn
        injection hn with hn
        subst hn
        exact ⟨kv, nv, fun j hj => by rw [List.getElem?_append_right (by omega), h1]; congr 1; omega, hk, hs, ho⟩
theorem NdCs.join {P : Nat → Prop} {d : Nat} {w w' : World} {v v' : Value} {l r : List Nd} {cs news : List Value} (h : NdCs P d w v l cs) (hr : news.length = r.length * 6) (hn : ∀ i n, r[i]? = some n → ∃ kv nv, (∀ j, j < 6 → news[i * 6 + j]? = (ndC n kv nv)[j]?) ∧ NodesX (fun b => P b ∧ some b ≠ v.ownBlock) d w kv n.kids ∧ StrsX (fun b => P b ∧ some b ≠ v.ownBlock) w nv n.names ∧ NdOk n)
    (hg : w.grownBy w' v.ownBlock) (hc : v'.ownBlock = v.ownBlock ∨ ∃ g, v'.ownBlock = some g ∧ w.heap.size ≤ g) : NdCs P d w' v' (l ++ r) (cs ++ news) := by
  obtain ⟨t1, t2⟩ := turn_push hg hc
  have tk : ∀ {d : Nat} {u : Value} {l : List Nd}, NodesX (fun b => P b ∧ some b ≠ v.ownBlock) d w u l → NodesX (fun b => P b ∧ some b ≠ v'.ownBlock) d w' u l := fun h => (show NodesX (fun b => (P b ∧ some b ≠ v.ownBlock) ∧ some b ≠ v'.ownBlock) _ _ _ _ from h.turn (fun b hb hp => ⟨hp, t2 b hb hp.2⟩)).keep (fun k hk hp => t1 k hk hp.1.2) |>.weak fun b hp => ⟨hp.1.1, hp.2⟩
  have ts : ∀ {u : Value} {l : List ByteArray}, StrsX (fun b => P b ∧ some b ≠ v.ownBlock) w u l → StrsX (fun b => P b ∧ some b ≠ v'.ownBlock) w' u l := fun h => (show StrsX (fun b => (P b ∧ some b ≠ v.ownBlock) ∧ some b ≠ v'.ownBlock) _ _ _ from h.turn (fun b hb hp => ⟨hp, t2 b hb hp.2⟩)).keep (fun k hk hp => t1 k hk hp.1.2) |>.weak fun b hp => ⟨hp.1.1, hp.2⟩
  refine ⟨by rw [List.length_append, List.length_append, h.1, hr]; omega, fun i n hi => ?_⟩
  by_cases hil : i < l.length
  · rw [List.getElem?_append_left hil] at hi
    obtain ⟨kv', nv', a, b, c, e⟩ := h.2 i n hi
    exact ⟨kv', nv', fun j hj => by rw [List.getElem?_append_left (by rw [h.1]; omega)]; exact a j hj, tk b, ts c, e⟩
  · rw [List.getElem?_append_right (by omega)] at hi
    obtain ⟨kv, nv, a, b, c, e⟩ := hn _ n hi
    exact ⟨kv, nv, fun j hj => by rw [List.getElem?_append_right (by rw [h.1]; omega), h.1, ← a j hj]; congr 1; omega, tk b, ts c, e⟩
/-- append of nodes that are read to a row of the call's own -/
theorem run_append_nds {P : Program} (w : World) (base : Nat) (t ty T : TypeId) (i : TypeInfo) (z : Value) (ht : P.underlying t = some (.slice T)) (hi : P.info? T = some i) (hz : i.zero = some z) (hsize : i.size = 6) (hby : i.bytes = 88) (hzs : z.cells.size = 6)
    (v : Value) (l : List Nd) (cs : List Value) (hown : w.ownsRow base T 6 v l.length cs) {Q : Nat → Prop} {d : Nat} (hnc : NdCs Q d w v l cs) (sv : Value) (r : List Nd) (hr : NodesX (fun b => Q b ∧ some b ≠ v.ownBlock) (d + 1) w sv r) (hn : l.length + r.length ≤ 1000) (hbase : base ≤ w.heap.size) :
    ∃ v' w' cs', (Builtin.append_ #[t, t] ty #[v, sv]).run P w = .ok v' w' ∧ w'.ownsRow base T 6 v' (l ++ r).length cs' ∧ NdCs Q d w' v' (l ++ r) cs' ∧ w.grownBy w' v.ownBlock := by
  obtain ⟨a, cap, rfl, h1, h2, h3⟩ := hr.shape
  cases a with
  | some a =>
    cases hl : r with
    | nil =>
      subst hl
      obtain ⟨v', w', r1, r2, r3, -, r5⟩ := run_append_own_at (P := P) w base t ty T i z 6 88 ht hi hz hsize hby hzs (by decide) v l.length cs hown a 0 cap [] rfl (fun j u hu => by simp at hu) (fun u hu => by cases hu) (by unfold maxLen; simp at hn; omega) (by simp at hn; omega) hbase
      refine ⟨v', w', cs ++ [], r1, by simpa using r2, ?_, r3⟩
      exact hnc.join rfl (fun i n h => by simp at h) r3 (r5.imp id fun h => ⟨_, h, Nat.le_refl _⟩)
    | cons y r0 =>
      have hr' := hr
      obtain ⟨a', c', hv, -, -, -, h5⟩ := hr'
      injection hv with e1 e2 e3
      obtain ⟨b, o, kv, nv, ha, -⟩ := h5 0 y (by rw [hl]; rfl)
      rw [← e1] at ha
      injection ha with ha
      subst ha
      obtain ⟨news, f1, f2, f3, f4⟩ := nds_flat hr r.length (Nat.le_refl _)
      obtain ⟨v', w', r1, r2, r3, -, r5⟩ := run_append_own_at (P := P) w base t ty T i z 6 88 ht hi hz hsize hby hzs (by decide) v l.length cs hown ⟨b, o, none⟩ r.length cap news f1 (fun j u hu => by rw [addr_at]; exact f2 j u hu) f3 (by unfold maxLen; omega) (by omega) hbase
      rw [← hl]
      refine ⟨v', w', cs ++ news, r1, by rw [List.length_append]; exact r2, ?_, r3⟩
      exact hnc.join f1 (fun i n h => f4 i n (List.getElem?_eq_some_iff.1 h).1 h) r3 (r5.imp id fun h => ⟨_, h, Nat.le_refl _⟩)
  | none =>
    have hc := h3 rfl
    have hl0 : r.length = 0 := by omega
    obtain rfl := List.length_eq_zero_iff.1 hl0
    have hsrc : Src P i.size t (.slice none 0 cap) 0 [] w := Src.ofNil w ht cap
    have hrun : (Builtin.append_ #[t, t] ty #[v, .slice none 0 cap]).run P w = .ok v w := by
      rcases hown.2 with ⟨rfl, -⟩ | ⟨g, c, cur, rfl, -, -, hn, -⟩
      · exact run_append_nothing w t t ty T i ht hi none 0 0 (Nat.le_refl _) _ hsrc
      · exact run_append_nothing w t t ty T i ht hi _ l.length c hn _ hsrc
    refine ⟨v, w, cs, hrun, by simpa using hown, by simpa using hnc, ⟨rfl, rfl, rfl, Nat.le_refl _, fun _ _ _ => rfl⟩⟩
theorem wpList_append_nds {P : Program} (w : World) {ops : Array Oper} {rest : List Oper} {o : Oper} {a : Act} {Q0 : Exit → Act → World → Prop} (hgd : o.guard = none) (s x : Operand) (t : TypeId)
    (ho : o.op = .call { callee := .builtin .append, args := #[s, x], argTypes := #[t, t] }) (base : Nat) (T : TypeId) (i : TypeInfo) (z : Value) (ht : P.underlying t = some (.slice T)) (hi : P.info? T = some i) (hz : i.zero = some z) (hsize : i.size = 6) (hby : i.bytes = 88) (hzs : z.cells.size = 6)
    (v : Value) (l : List Nd) (cs : List Value) (hs : a.eval s = v) (hown : w.ownsRow base T 6 v l.length cs) {Q : Nat → Prop} {d : Nat} (hnc : NdCs Q d w v l cs) (sv : Value) (r : List Nd) (hx : a.eval x = sv) (hr : NodesX (fun b => Q b ∧ some b ≠ v.ownBlock) (d + 1) w sv r) (hn : l.length + r.length ≤ 1000) (hbase : base ≤ w.heap.size)
    (h : ∀ v' w' cs', w'.ownsRow base T 6 v' (l ++ r).length cs' → NdCs Q d w' v' (l ++ r) cs' → w.grownBy w' v.ownBlock → wpList P ops Q0 rest (a.put o.dst v') w') : wpList P ops Q0 (o :: rest) a w :=
  wpList_plain hgd fun _ hK => by
    obtain ⟨v', w', cs', hr1, h2, h3, h4⟩ := run_append_nds (P := P) w base t o.type T i z ht hi hz hsize hby hzs v l cs hown hnc sv r hr hn hbase
    unfold Oper.wp execOp
    simp only [ho, resolve, invoke, builtin, Sem.run_bind, Sem.run_pure, Result.andThen_ok, List.map_toArray, List.map_cons, List.map_nil, hs, hx, hr1]
    exact hK _ _ (h v' w' cs' h2 h3 h4)
def allS (f : List Nd → List Nd) : List Nd → List Nd
  | [] => []
  | n :: l => n :: (f n.kids ++ allS f l)
def allL : Nat → List Nd → List Nd
  | 0, _ => []
  | d + 1, l => allS (allL d) l
theorem allS_append (f : List Nd → List Nd) : ∀ l r : List Nd, allS f (l ++ r) = allS f l ++ allS f r
  | [], r => rfl
  | n :: l, r => by
    show n :: (f n.kids ++ allS f (l ++ r)) = (n :: (f n.kids ++ allS f l)) ++ allS f r
    rw [allS_append f l r]
    simp
theorem all_next {x : Nat → Prop} {d : Nat} {w wr WA w2 : World} {u u2 : Value} {L : List Nd} {cs : List Value} {s : Nd} {kv nv : Value} {gg n cap : Nat}
    (hxw : ∀ b, x b → b < w.heap.size) (hB : Below w.heap.size w wr) (hO : wr.ownsRow w.heap.size 43 6 u L.length cs) (hC : NdCs (fun b => x b ∨ w.heap.size ≤ b) d wr u L cs)
    (hk : NodesX x d wr kv s.kids) (hs : StrsX x wr nv s.names) (ho : NdOk s) (hA : Below wr.heap.size wr WA) (hg : WA.grownBy w2 u.ownBlock) (hat : u.ownBlock = some gg ∨ gg = WA.heap.size) (hu2 : u2 = .slice (some ⟨gg, 0, none⟩) n cap) :
    NdCs (fun b => x b ∨ w.heap.size ≤ b) d w2 u2 (L ++ [s]) (cs ++ ndC s kv nv) ∧ Below w.heap.size w w2 ∧ NodesX x d w2 kv s.kids := by
  subst hu2
  have hwr := hB.size
  have hne : ∀ b, x b → some b ≠ u.ownBlock := fun b hb e => by have h1 := hO.lt b e.symm; have := hxw b hb; omega
  refine ⟨(hC.keep (w' := WA) fun k hk _ _ => hA.block k hk).push ((hk.later hA).weak fun b hb => ⟨Or.inl hb, hne b hb⟩) ((hs.later hA).weak fun b hb => ⟨Or.inl hb, hne b hb⟩) ho hg ?_, (hB.trans (hA.mono hwr)).grown hg (by have := hA.size; omega) fun g hg => (hO.lt g hg).1, (hk.later hA).keep fun k hk' hx => hg.block k hk' (hne k hx)⟩
  rcases hat with h | h
  · exact Or.inl h.symm
  · exact Or.inr ⟨gg, rfl, by omega⟩
set_option maxRecDepth 100000 in
set_option maxHeartbeats 4000000 in
theorem allN_step (x : Nat → Prop) (d : Nat) (v : Value) (l : List Nd) (w : World) (f : List Nd → List Nd) (hxw : ∀ b, x b → b < w.heap.size) (h : NodesX x (d + 1) w v l) (hlen : (allS f l).length ≤ 300)
    (H : ∀ n kv' W, n ∈ l → w.heap.size ≤ W.heap.size → NodesX x d W kv' n.kids → Calls Try.prog 7 #[kv'] W fun e w' => ∃ v', e = .returned v' ∧ NodesX (fun b => x b ∨ W.heap.size ≤ b) d w' v' (f n.kids) ∧ Below W.heap.size W w') :
    Calls Try.prog 7 #[v] w fun e w' => ∃ v', e = .returned v' ∧ NodesX (fun b => x b ∨ w.heap.size ≤ b) (d + 1) w' v' (allS f l) ∧ Below w.heap.size w w' := by
  obtain ⟨iN, hiN, nz0, nz1, nz2⟩ := info_parts rndInfo
  obtain ⟨va, c, rfl, h1, h2, -⟩ := h.shape
  have hmax : l.length ≤ 9223372036854775807 := Nat.le_trans h1 h2
  have HS := Lib.hid h
  have HH := Lib.hid H
  have HXW := Lib.hid hxw
  have HLE : Hid (∀ i, (allS f (l.take i)).length ≤ 300) := Lib.hid fun i => by
    rw [← List.take_append_drop i l, allS_append, List.length_append] at hlen
    omega
  clear h H hxw hlen
  go_enter Try.func7, Try.ntmps7
  go_wp2_with fail
  go_loopg [3, 4] l.length (fun gg s3 s4 wr => ∃ (i : Nat) (cs : List Value), gg = l.length - i ∧ i ≤ l.length ∧ s4 = .int .i64 (i : Int) ∧ wr.ownsRow w.heap.size 43 6 s3 (allS f (l.take i)).length cs ∧ NdCs (fun b => x b ∨ w.heap.size ≤ b) d wr s3 (allS f (l.take i)) cs ∧ Below w.heap.size w wr)
  case atStart => exact ⟨0, [], rfl, by omega, rfl, World.ownsRow_nil _ _ _ _, NdCs.nil _ _ _ _, Below.refl _ _⟩
  case round =>
    obtain ⟨i, cs, hg, hi, rfl, hown, hnc, hb⟩ := hrel
    have HGG := Lib.hid hg
    have HB := Lib.hid hb
    have HOW := Lib.hid hown
    have HNC := Lib.hid hnc
    have HSI := Lib.hid (HS.out.later hb)
    have hwr := hb.size
    have hle := HLE.out i
    have HLN := Lib.hid (HLE.out (i + 1))
    clear hg hb hown hnc
    by_cases hlt' : i < l.length
    · have HLT := Lib.hid hlt'
      have hl' := List.getElem?_eq_getElem hlt'
      obtain ⟨b, o, kv, nv, rfl, c0, c1, c2, c3, c4, c5, hk, hs, ho⟩ := HSI.out.at i _ hl'
      obtain ⟨ka, kc, rfl, -⟩ := id hk.shape
      obtain ⟨na, nc, rfl, -⟩ := id hs
      have HT := Lib.hid (show allS f (l.take (i + 1)) = allS f (l.take i) ++ (l[i] :: f l[i].kids) by rw [List.take_add_one, hl', allS_append]; show _ ++ (l[i] :: (f l[i].kids ++ [])) = _; rw [List.append_nil])
      have HREC := Lib.hid (fun kv' W => HH.out l[i] kv' W (List.getElem_mem hlt'))
      have HKD := Lib.hid hk
      have HND := Lib.hid hs
      have HNK := Lib.hid ho
      have HCE := Lib.hid (show ∀ W, (∀ k, k < wr.heap.size → x k → W.heap[k]? = wr.heap[k]?) → NodesX x (d + 1) W (.slice (some ⟨b, o, none⟩) l.length c) l from fun W hW => HSI.out.keep fun k hk hx => hW k hk hx)
      have hxb : x b := by
        obtain ⟨a', c', hv, -, -, -, h5⟩ := HSI.out
        injection hv with e1 e2 e3
        obtain ⟨b', o', _, _, ha, hx, -⟩ := h5 i _ hl'
        rw [← e1] at ha
        injection ha with ha
        injection ha with ha
        exact ha ▸ hx
      have hbw := HXW.out b hxb
      have HXB := Lib.hid hxb
      clear hk hs ho hxb
      have hli : Hid (l[i]? = some l[i]) := Lib.hid hl'
      clear hl'
      generalize l[i] = s at *
      generalize allS f (l.take i) = L at *
      go_upto_region 5 with fail
      go_wp2_with (refine wpList_append_lies _ rfl _ _ 23 rfl w.heap.size 43 iN _ 6 88 Try.underlying23 hiN nz0 nz1 nz2 rfl (by omega) u3 L.length cs rfl (HOW.out.alloc _) ⟨_, 0, none⟩ 1 1 (ndC s (.slice ka s.kids.length kc) (.slice na s.names.length nc)) rfl rfl (World.news_of_block (cs := #[.int .i64 s.kind, .string s.name, .int .i64 s.num, .slice ka s.kids.length kc, .slice na s.names.length nc, .int .i64 s.at_]) (heap_alloc_new _ _)) (by simp [ndC, Value.oneCell']) (by omega) (by unfold maxLen; omega) (by omega) (by simp; omega) _ rfl ?_; intro gg cap6 wF hownF hgrF hatF hltF; have c3F : wF.cell? ⟨b, o + i * 6 + 3, none⟩ = some (.slice ka s.kids.length kc) := (World.cell?_of_block (a := ⟨b, o + i * 6 + 3, none⟩) (hgrF.block b (by simp; omega) (fun e => by have := (HOW.out.lt b e.symm).1; omega))).trans ((World.cell?_of_block (a := ⟨b, o + i * 6 + 3, none⟩) (heap_alloc_old wr _ b (by omega))).trans c3))
      obtain ⟨hn2, hb2, hk2⟩ := all_next (n := L.length + 1) (cap := cap6) HXW.out HB.out HOW.out HNC.out HKD.out HND.out HNK.out ((Below.refl _ _).alloc (Nat.le_refl _) _) hgrF hatF rfl
      have z2 := hb2.size
      have hlt2 := hownF.lt gg rfl
      refine (HREC.out _ wF z2 hk2).mono ?_
      rintro e wC ⟨v', rfl, hnC, hbC⟩
      obtain ⟨aC, cC, rfl, -⟩ := id hnC.shape
      have zC := hbC.size
      have HLL : Hid ((L ++ [s]).length = L.length + 1) := Lib.hid (by simp)
      have HOC := Lib.hid (show wC.ownsRow w.heap.size 43 6 (.slice (some ⟨gg, 0, none⟩) (L.length + 1) cap6) (L ++ [s]).length (cs ++ ndC s (.slice ka s.kids.length kc) (.slice na s.names.length nc)) by
        rw [HLL.out]
        exact own_grown hownF fun g hg => hbC.block g (hownF.lt g hg).2)
      have HNC2 := Lib.hid (hn2.keep (w' := wC) fun k hk _ _ => hbC.block k hk)
      have HRC := Lib.hid (show NodesX (fun b' => (x b' ∨ w.heap.size ≤ b') ∧ some b' ≠ Value.ownBlock (.slice (some ⟨gg, 0, none⟩) (L.length + 1) cap6)) (d + 1) wC (.slice aC (f s.kids).length cC) (f s.kids) from hnC.succ.weak fun b' hb' => ⟨hb'.imp id fun h => by omega, fun e => by
        have e' : b' = gg := by injection e
        rcases hb' with hb' | hb'
        · have := HXW.out b' hb'; omega
        · omega⟩)
      have HBC := Lib.hid (hb2.trans (hbC.mono z2))
      have hlen2 : (L ++ [s]).length + (f s.kids).length ≤ 1000 := by
        have h3 := HLN.out
        rw [HT.out, List.length_append, List.length_cons] at h3
        rw [HLL.out]
        omega
      have HLE2 := Lib.hid hlen2
      clear hn2 hb2 hk2 hownF hgrF hatF hltF c3F hnC hbC hlen2
      dsimp only
      go_step
      refine wpList_append_nds _ rfl _ _ 23 rfl w.heap.size 43 iN _ Try.underlying23 hiN nz0 nz1 nz2 rfl (.slice (some ⟨gg, 0, none⟩) (L.length + 1) cap6) (L ++ [s]) _ rfl HOC.out HNC2.out _ (f s.kids) rfl HRC.out HLE2.out (by omega) ?_
      intro v9 wG cs9 hownG hncG hgrG
      have HOG := Lib.hid hownG
      have HNG := Lib.hid hncG
      have HBG := Lib.hid (HBC.out.grown hgrG (by omega) fun g hg => by have := HOC.out.lt g hg; omega)
      clear hownG hncG hgrG
      go_wp2_with fail
      go_roundg (l.length - (i + 1))
      case measure => rw [HGG.out]; omega
      case rel =>
        have hltb := HLT.out
        have hT : allS f (l.take (i + 1)) = (L ++ [s]) ++ f s.kids := by rw [HT.out]; simp
        exact ⟨i + 1, cs9, rfl, by omega, by go_num, by rw [hT]; exact HOG.out, by rw [hT]; exact HNG.out, HBG.out⟩
    · have : i = l.length := by omega
      subst this
      have HT : Hid (l.take l.length = l) := Lib.hid List.take_length
      have HF := Lib.hid (show NodesX (fun b => x b ∨ w.heap.size ≤ b) (d + 1) wr u3 (allS f l) by
        have h1 := HNC.out
        have h3 := HOW.out
        rw [HT.out] at h1 h3
        exact h1.nodes h3 (fun b h => h) fun g hg => Or.inr (h3.lt g hg).1)
      go_wp2_with fail
      go_ret
      exact ⟨_, rfl, HF.out, HB.out⟩
theorem allN_any : ∀ (d : Nat) (x : Nat → Prop) (v : Value) (l : List Nd) (w : World), (∀ b, x b → b < w.heap.size) → NodesX x d w v l → (allL d l).length ≤ 300 →
    Calls Try.prog 7 #[v] w fun e w' => ∃ v', e = .returned v' ∧ NodesX (fun b => x b ∨ w.heap.size ≤ b) d w' v' (allL d l) ∧ Below w.heap.size w w'
  | 0, x, v, l, w, hxw, h, hlen => by
      obtain rfl := nodes0 h
      refine (allN_step x 0 v [] w (fun _ => []) hxw h.succ (by simp [allS]) fun n kv' W hn => by cases hn).mono ?_
      rintro e w' ⟨v', h1, h2, h3⟩
      obtain ⟨a, c, rfl, -, q2, q3, -⟩ := h2
      exact ⟨_, h1, ⟨rfl, a, c, rfl, q2, q3⟩, h3⟩
  | d + 1, x, v, l, w, hxw, h, hlen => allN_step x d v l w (allL d) hxw h hlen fun n kv' W hn hW hk => allN_any d x kv' n.kids W (fun b hb => Nat.lt_of_lt_of_le (hxw b hb) hW) hk (by
      have : ∀ l : List Nd, n ∈ l → (allL d n.kids).length ≤ (allS (allL d) l).length := by
        intro l
        induction l with
        | nil => intro h; cases h
        | cons y l ih =>
          intro h
          show _ ≤ (y :: (allL d y.kids ++ allS (allL d) l)).length
          simp only [List.length_cons, List.length_append]
          rcases List.mem_cons.1 h with rfl | h
          · omega
          · have := ih h; omega
      have h2 := this l hn
      have h3 : (allS (allL d) l).length ≤ 300 := hlen
      omega)
end Go.Proofs.Ytpfgidhchjcomaa
