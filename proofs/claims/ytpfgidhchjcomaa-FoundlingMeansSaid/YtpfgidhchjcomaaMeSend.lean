/- A message is resolved. -/
import Derived.Test.YtpfgidhchjcomaaMeItemS
namespace Go.Proofs.Ytpfgidhchjcomaa
open Go.RowKit
set_option linter.unusedVariables false
theorem its_flat {T : TypeId} {x : Nat → Prop} {d : Nat} {w : World} {b o c : Nat} {l : List It} (h : ItsX T x (d + 1) w (.slice (some ⟨b, o, none⟩) l.length c) l) : ∀ m, m ≤ l.length → ∃ news : List Value, news.length = m * 6 ∧ (∀ j u, news[j]? = some u → w.cell? ⟨b, o + j, none⟩ = some u) ∧ (∀ u, u ∈ news → u.oneCell' = true) ∧ ∀ i n, i < m → l[i]? = some n → ∃ kv, (∀ j, j < 6 → news[i * 6 + j]? = (itC n kv)[j]?) ∧ ItsX T x d w kv n.kids
  | 0, _ => ⟨[], rfl, fun j u h => by simp at h, fun u h => (by cases h), fun i n h => absurd h (Nat.not_lt_zero _)⟩
  | m + 1, hm => by
    obtain ⟨news, h1, h2, h3, h4⟩ := its_flat h m (by omega)
    have hlt : m < l.length := by omega
    obtain ⟨a', c', hv, -, -, -, h5⟩ := id h
    injection hv with e1 e2 e3
    obtain ⟨b', o', kv, ha, -, -, hc, hk, -⟩ := h5 m _ (List.getElem?_eq_getElem hlt)
    rw [← e1] at ha
    injection ha with ha
    injection ha with hb ho _
    subst hb; subst ho
    obtain ⟨ka, kc, hkv, -⟩ := hk.shape
    refine ⟨news ++ itC l[m] kv, by rw [List.length_append, h1]; show m * 6 + 6 = _; omega, fun j u hj => ?_, fun u hu => ?_, fun i n hi hn => ?_⟩
    · by_cases hjm : j < m * 6
      · rw [List.getElem?_append_left (by omega)] at hj
        exact h2 j u hj
      · rw [List.getElem?_append_right (by omega), h1] at hj
        have hj6 : j - m * 6 < 6 := by
          have := (List.getElem?_eq_some_iff.1 hj).1
          exact this
        rw [← hj, ← hc _ hj6]
        congr 2
        omega
    · rcases List.mem_append.1 hu with hu | hu
      · exact h3 u hu
      · subst hkv
        simp [itC] at hu
        rcases hu with rfl | rfl | rfl | rfl | rfl | rfl <;> rfl
    · by_cases him : i < m
      · obtain ⟨kv', q1, q2⟩ := h4 i n him hn
        exact ⟨kv', fun j hj => by rw [List.getElem?_append_left (by omega)]; exact q1 j hj, q2⟩
      · obtain rfl : i = m := by omega
        rw [List.getElem?_eq_getElem hlt] at hn
        injection hn with hn
        subst hn
        exact ⟨kv, fun j hj => by rw [List.getElem?_append_right (by omega), h1]; congr 1; omega, hk⟩
/-- append of items to a row of one of the call's own -/
theorem run_append_self {P : Program} (w : World) (base E : Nat) (t ty T : TypeId) (i : TypeInfo) (z : Value) (ht : P.underlying t = some (.slice T)) (hi : P.info? T = some i) (hz : i.zero = some z) (hsize : i.size = 6) (hby : i.bytes = 72) (hzs : z.cells.size = 6)
    (self : It) (hself : self.kids = []) (hown : w.ownsRow base T 6 (.slice (some ⟨E, 0, none⟩) 1 1) 1 (itC self (.slice none 0 0))) (hbE : base ≤ E) (d : Nat) (sv : Value) (l : List It) (hl : ItsX T (fun b => base ≤ b ∧ b ≠ E) (d + 1) w sv l) (hn : l.length ≤ 300) (hbase : base ≤ w.heap.size) :
    ∃ a' c' w', (Builtin.append_ #[t, t] ty #[.slice (some ⟨E, 0, none⟩) 1 1, sv]).run P w = .ok (.slice a' (1 + l.length) c') w' ∧ ItsX T (fun b => base ≤ b) (d + 1) w' (.slice a' (1 + l.length) c') (self :: l) ∧ w.grownBy w' (some E) := by
  obtain ⟨a, cap, rfl, h1, h2, h3⟩ := hl.shape
  have hC0 : ItCs T (fun b => base ≤ b) d w (.slice (some ⟨E, 0, none⟩) 1 1) [self] (itC self (.slice none 0 0)) := ⟨rfl, fun i n hn => by
    cases i with
    | zero =>
      injection hn with hn
      subst hn
      exact ⟨.slice none 0 0, fun j hj => by simp, by rw [hself]; exact its_nil _ _ _ _, trivial⟩
    | succ i => simp at hn⟩
  by_cases h0 : l.length = 0
  · obtain rfl := List.length_eq_zero_iff.1 h0
    have hsrc : Src P i.size t (.slice a 0 cap) 0 [] w := by
      cases a with
      | none => exact Src.ofNil w ht cap
      | some a => exact Src.ofSlice w ht a 0 cap [] (by simp) (fun j u h => by simp at h) (fun u h => by cases h)
    exact ⟨some ⟨E, 0, none⟩, 1, w, run_append_nothing w t t ty T i ht hi _ _ _ (Nat.le_refl _) _ hsrc, hC0.items hown (fun b h => h) (fun g hg => by injection hg with e; have e' : E = g := e; subst e'; exact hbE), ⟨rfl, rfl, rfl, Nat.le_refl _, fun _ _ _ => rfl⟩⟩
  · cases a with
    | none => exact absurd (h3 rfl) (by omega)
    | some a =>
      obtain ⟨y, l', rfl⟩ : ∃ y l', l = y :: l' := by cases l with | nil => exact absurd rfl h0 | cons y l' => exact ⟨y, l', rfl⟩
      obtain ⟨b, o, kv, ha, -⟩ := hl.at 0 y rfl
      injection ha with ha
      subst ha
      obtain ⟨news, f1, f2, f3, f4⟩ := its_flat hl _ (Nat.le_refl _)
      have hadd : ∀ j, (⟨b, o, none⟩ : Addr).add j = ⟨b, o + j, none⟩ := fun j => by unfold Addr.add; split <;> simp_all
      obtain ⟨v', w', r1, r2, r3, -, r5⟩ := run_append_own_at (P := P) w base t ty T i z 6 72 ht hi hz hsize hby hzs (by decide) _ 1 _ hown ⟨b, o, none⟩ _ cap news f1 (fun j u hu => by rw [hadd]; exact f2 j u hu) f3 (by unfold maxLen; omega) (by omega) hbase
      obtain ⟨g, c', hv', -⟩ := r2.form (by omega)
      subst hv'
      have hC1 : ItCs T (fun b => base ≤ b ∧ b ≠ E) d w' (.slice (some ⟨g, 0, none⟩) (1 + (y :: l').length) c') (self :: y :: l') (itC self (.slice none 0 0) ++ news) := by
        have hgE : ∀ b, b < w.heap.size → base ≤ b ∧ b ≠ E → some b ≠ (Value.slice (some ⟨g, 0, none⟩) (1 + (y :: l').length) c').ownBlock := fun b hb hx e => by
          injection e with e
          have e' : b = g := e
          rcases r5 with r5 | r5
          · injection r5 with r5
            have : g = E := r5
            omega
          · injection r5 with r5
            have : g = w.heap.size := r5
            omega
        have hkeep : ∀ {u : Value} {m : List It}, ItsX T (fun b => base ≤ b ∧ b ≠ E) d w u m → ItsX T (fun b => (base ≤ b ∧ b ≠ E) ∧ some b ≠ (Value.slice (some ⟨g, 0, none⟩) (1 + (y :: l').length) c').ownBlock) d w' u m := fun h => (h.turn fun b hb hx _ => (⟨hx, hgE b hb hx⟩ : (base ≤ b ∧ b ≠ E) ∧ _)).keep fun k hk hx _ => r3.block k hk fun e => by injection e with e; exact hx.1.2 e
        refine ⟨by rw [List.length_append, f1]; simp [itC]; omega, fun i n hn => ?_⟩
        cases i with
        | zero =>
          injection hn with hn
          subst hn
          exact ⟨.slice none 0 0, fun j hj => by rw [List.getElem?_append_left (by simpa [itC] using hj)]; simp, by rw [hself]; exact its_nil _ _ _ _, trivial⟩
        | succ i =>
          have hn' : (y :: l')[i]? = some n := by simpa using hn
          obtain ⟨kv', q1, q2⟩ := f4 i n (List.getElem?_eq_some_iff.1 hn').1 hn'
          refine ⟨kv', fun j hj => ?_, hkeep q2, trivial⟩
          have h6 : (itC self (Value.slice none 0 0)).length = 6 := rfl
          rw [List.getElem?_append_right (by rw [h6]; omega), h6, ← q1 j hj]
          congr 1
          omega
      have hr2 : w'.ownsRow base T 6 (.slice (some ⟨g, 0, none⟩) (1 + (y :: l').length) c') (self :: y :: l').length (itC self (.slice none 0 0) ++ news) := by
        rw [show (self :: y :: l').length = 1 + (y :: l').length by simp; omega]
        exact r2
      exact ⟨_, c', w', r1, hC1.items hr2 (fun b h => h.1) (fun g' hg' => (r2.lt g' hg').1), r3⟩
theorem step_append_self {P : Program} (w : World) {ops : Array Oper} {o : Oper} {a : Act} {K : Act → World → Prop} {Q : Exit → Act → World → Prop} {E' : Prop} (hgd : o.guard = none) (s x : Operand) (t : TypeId)
    (ho : o.op = .call { callee := .builtin .append, args := #[s, x], argTypes := #[t, t] }) (base E : Nat) (T : TypeId) (i : TypeInfo) (z : Value) (ht : P.underlying t = some (.slice T)) (hi : P.info? T = some i) (hz : i.zero = some z) (hsize : i.size = 6) (hby : i.bytes = 72) (hzs : z.cells.size = 6)
    (self : It) (hself : self.kids = []) (hs : a.eval s = .slice (some ⟨E, 0, none⟩) 1 1) (hown : w.ownsRow base T 6 (.slice (some ⟨E, 0, none⟩) 1 1) 1 (itC self (.slice none 0 0))) (hbE : base ≤ E) (d : Nat) (sv : Value) (l : List It) (hx : a.eval x = sv) (hl : ItsX T (fun b => base ≤ b ∧ b ≠ E) (d + 1) w sv l) (hn : l.length ≤ 300) (hbase : base ≤ w.heap.size)
    (h : ∀ a' c' w', ItsX T (fun b => base ≤ b) (d + 1) w' (.slice a' (1 + l.length) c') (self :: l) → w.grownBy w' (some E) → K (a.put o.dst (.slice a' (1 + l.length) c')) w') :
    if Region.wanted o (yielded ops a.tmps) = true then Oper.wp P o a w K Q else E' := by
  have hw : Region.wanted o (yielded ops a.tmps) = true := by simp [Region.wanted, hgd]
  rw [if_pos hw]
  obtain ⟨a', c', w', hr, h2, h3⟩ := run_append_self (P := P) w base E t o.type T i z ht hi hz hsize hby hzs self hself hown hbE d sv l hl hn hbase
  unfold Oper.wp execOp
  simp only [ho, resolve, invoke, builtin, Sem.run_bind, Sem.run_pure, Result.andThen_ok, List.map_toArray, List.map_cons, List.map_nil, hs, hx, hr]
  exact h a' c' w' h2 h3
set_option maxRecDepth 100000 in
set_option maxHeartbeats 8000000 in
theorem send_plain (B : Nat) (p : Nat) (kn : List Kn) (slots : Nat) (fv gv : Value) (F G : List ByteArray) (d : Nat) (K : Kfn) (n : Nd) (kv nv : Value) (may : Bool) (w : World) (h : RsAt B w p kn slots fv gv F G) (hk : NodesX (· < B) d w kv n.kids) (hs : StrsX (· < B) w nv n.names) (ho : NdOk n) (hok : n.kind = 7 → n.kids ≠ []) (hkc : KC B p fv gv F G d K n.kids) (hsm : (superB n && may) = false) :
    Calls Try.prog 48 #[.pointer (some ⟨p, 0, none⟩), ndV n kv nv, .bool may] w fun e w' => OnePost B w p kn fv gv F G d (sendM K kn slots n may) e w' := by
  obtain ⟨k, s, nu, ks, ns, at_⟩ := n
  replace hk : NodesX (· < B) d w kv ks := hk
  replace hs : StrsX (· < B) w nv ns := hs
  obtain ⟨ka, kc, rfl, -⟩ := id hk.shape
  obtain ⟨na, nc, rfl, -⟩ := id hs
  have hpw := h.get.1
  have hBw : B ≤ w.heap.size := by have := h.pB; omega
  have HR := Lib.hid h
  have HKD := Lib.hid hk
  have HNS := Lib.hid hs
  have HKC := Lib.hid (show KC B p fv gv F G d K ks from hkc)
  have SA := Lib.hid (fun W (hW : Below w.heap.size w W) => super_any (· < B) d (.mk k s nu ks ns at_) (.slice ka ks.length kc) (.slice na ns.length nc) W (hk.later hW) hok)
  have HM := Lib.hid (show sendM K kn slots (.mk k s nu ks ns at_) may = (if 13 < ks.length then none else (K kn slots ks).map fun r => (.mk 14 s 0 0 0 r.1, r.2)) by
    unfold sendM
    rw [hsm]
    rfl)
  show Calls Try.prog 48 #[.pointer (some ⟨p, 0, none⟩), .agg #[.int .i64 k, .string s, .int .i64 nu, .slice ka ks.length kc, .slice na ns.length nc, .int .i64 at_], .bool may] w fun e w' => OnePost B w p kn fv gv F G d (sendM K kn slots (.mk k s nu ks ns at_) may) e w'
  replace SA : Hid (∀ W, Below w.heap.size w W → Calls Try.prog 72 #[.agg #[.int .i64 k, .string s, .int .i64 nu, .slice ka ks.length kc, .slice na ns.length nc, .int .i64 at_]] W fun e w' => e = .returned (.bool (superB (.mk k s nu ks ns at_))) ∧ Below W.heap.size W w') := SA
  obtain ⟨sb, hsb⟩ : ∃ sb, superB (.mk k s nu ks ns at_) = sb := ⟨_, rfl⟩
  rw [hsb] at SA hsm
  clear hkc h hk hs ho hok hsb
  by_cases hgt : 13 < ks.length
  · have HV := Lib.hid (HM.out.trans (if_pos hgt))
    have wk : IntKind.i64.wrap ((ks.length : Int) - 1) = (ks.length : Int) - 1 := IntWalk.i64_in _ (by have := HKD.out.shape; obtain ⟨a, c, e1, e2, e3, -⟩ := this; unfold maxLen at e3; omega)
    have hgt' : 12 < (ks.length : Int) - 1 := by omega
    clear HM SA HKC hsm
    have hb0 : Below w.heap.size w ((w.alloc (.cells #[.int .i64 k, .string s, .int .i64 nu, .slice ka ks.length kc, .slice na ns.length nc, .int .i64 at_] 30)).alloc (.cells #[.int .i64 0, .string ⟨#[]⟩, .int .i64 0, .int .i64 0, .int .i64 0, .slice none 0 0] 73)) := ((Below.refl _ _).alloc (Nat.le_refl _) _).alloc (by simp) _
    have hq1 : ((w.alloc (.cells #[.int .i64 k, .string s, .int .i64 nu, .slice ka ks.length kc, .slice na ns.length nc, .int .i64 at_] 30)).alloc (.cells #[.int .i64 0, .string ⟨#[]⟩, .int .i64 0, .int .i64 0, .int .i64 0, .slice none 0 0] 73)).heap[w.heap.size]? = some (.cells #[.int .i64 k, .string s, .int .i64 nu, .slice ka ks.length kc, .slice na ns.length nc, .int .i64 at_] 30 (0, 0)) := (heap_alloc_old _ _ _ (by simp)).trans (heap_alloc_new w _)
    have hq2 : ((w.alloc (.cells #[.int .i64 k, .string s, .int .i64 nu, .slice ka ks.length kc, .slice na ns.length nc, .int .i64 at_] 30)).alloc (.cells #[.int .i64 0, .string ⟨#[]⟩, .int .i64 0, .int .i64 0, .int .i64 0, .slice none 0 0] 73)).heap[w.heap.size + 1]? = some (.cells #[.int .i64 0, .string ⟨#[]⟩, .int .i64 0, .int .i64 0, .int .i64 0, .slice none 0 0] 73 (0, 0)) := heap_alloc2_new w _ _
    have hsz0 : ((w.alloc (.cells #[.int .i64 k, .string s, .int .i64 nu, .slice ka ks.length kc, .slice na ns.length nc, .int .i64 at_] 30)).alloc (.cells #[.int .i64 0, .string ⟨#[]⟩, .int .i64 0, .int .i64 0, .int .i64 0, .slice none 0 0] 73)).heap.size = w.heap.size + 2 := by simp
    go_enter Try.func48, Try.ntmps48
    go_upto_region 1 with fail
    generalize ((w.alloc (.cells #[.int .i64 k, .string s, .int .i64 nu, .slice ka ks.length kc, .slice na ns.length nc, .int .i64 at_] 30)).alloc (.cells #[.int .i64 0, .string ⟨#[]⟩, .int .i64 0, .int .i64 0, .int .i64 0, .slice none 0 0] 73)) = w0 at *
    have HB0 := Lib.hid hb0
    have HQ1 := Lib.hid hq1
    have HQ2 := Lib.hid hq2
    have n0 := cell_of_row w0 w.heap.size 0 _ _ _ hq1
    have n1 := cell_of_row w0 w.heap.size 1 _ _ _ hq1
    have n2 := cell_of_row w0 w.heap.size 2 _ _ _ hq1
    have n3 := cell_of_row w0 w.heap.size 3 _ _ _ hq1
    have n4 := cell_of_row w0 w.heap.size 4 _ _ _ hq1
    have n5 := cell_of_row w0 w.heap.size 5 _ _ _ hq1
    simp at n0 n1 n2 n3 n4 n5
    clear hb0 hq1 hq2
    have hl0 : w.heap.size + 1 < w0.heap.size := by omega
    have hl0' : w.heap.size < w0.heap.size := by omega
    go_wp2_with fail
    exact ⟨rfl, OnePost.no HV.out ⟨_, by decide, rfl⟩ (below_down HB0.out hBw)⟩
  have HV0 := Lib.hid (HM.out.trans (if_neg hgt))
  have wk : IntKind.i64.wrap ((ks.length : Int) - 1) = (ks.length : Int) - 1 := IntWalk.i64_in _ (by omega)
  have hgt' : ¬ 12 < (ks.length : Int) - 1 := by omega
  clear HM hgt
  cases sb
  · clear hsm
    have hb0 : Below w.heap.size w ((w.alloc (.cells #[.int .i64 k, .string s, .int .i64 nu, .slice ka ks.length kc, .slice na ns.length nc, .int .i64 at_] 30)).alloc (.cells #[.int .i64 0, .string ⟨#[]⟩, .int .i64 0, .int .i64 0, .int .i64 0, .slice none 0 0] 73)) := ((Below.refl _ _).alloc (Nat.le_refl _) _).alloc (by simp) _
    have hq1 : ((w.alloc (.cells #[.int .i64 k, .string s, .int .i64 nu, .slice ka ks.length kc, .slice na ns.length nc, .int .i64 at_] 30)).alloc (.cells #[.int .i64 0, .string ⟨#[]⟩, .int .i64 0, .int .i64 0, .int .i64 0, .slice none 0 0] 73)).heap[w.heap.size]? = some (.cells #[.int .i64 k, .string s, .int .i64 nu, .slice ka ks.length kc, .slice na ns.length nc, .int .i64 at_] 30 (0, 0)) := (heap_alloc_old _ _ _ (by simp)).trans (heap_alloc_new w _)
    have hq2 : ((w.alloc (.cells #[.int .i64 k, .string s, .int .i64 nu, .slice ka ks.length kc, .slice na ns.length nc, .int .i64 at_] 30)).alloc (.cells #[.int .i64 0, .string ⟨#[]⟩, .int .i64 0, .int .i64 0, .int .i64 0, .slice none 0 0] 73)).heap[w.heap.size + 1]? = some (.cells #[.int .i64 0, .string ⟨#[]⟩, .int .i64 0, .int .i64 0, .int .i64 0, .slice none 0 0] 73 (0, 0)) := heap_alloc2_new w _ _
    have hsz0 : ((w.alloc (.cells #[.int .i64 k, .string s, .int .i64 nu, .slice ka ks.length kc, .slice na ns.length nc, .int .i64 at_] 30)).alloc (.cells #[.int .i64 0, .string ⟨#[]⟩, .int .i64 0, .int .i64 0, .int .i64 0, .slice none 0 0] 73)).heap.size = w.heap.size + 2 := by simp
    go_enter Try.func48, Try.ntmps48
    go_upto_region 1 with fail
    generalize ((w.alloc (.cells #[.int .i64 k, .string s, .int .i64 nu, .slice ka ks.length kc, .slice na ns.length nc, .int .i64 at_] 30)).alloc (.cells #[.int .i64 0, .string ⟨#[]⟩, .int .i64 0, .int .i64 0, .int .i64 0, .slice none 0 0] 73)) = w0 at *
    have HB0 := Lib.hid hb0
    have HQ1 := Lib.hid hq1
    have HQ2 := Lib.hid hq2
    have n0 := cell_of_row w0 w.heap.size 0 _ _ _ hq1
    have n1 := cell_of_row w0 w.heap.size 1 _ _ _ hq1
    have n2 := cell_of_row w0 w.heap.size 2 _ _ _ hq1
    have n3 := cell_of_row w0 w.heap.size 3 _ _ _ hq1
    have n4 := cell_of_row w0 w.heap.size 4 _ _ _ hq1
    have n5 := cell_of_row w0 w.heap.size 5 _ _ _ hq1
    simp at n0 n1 n2 n3 n4 n5
    clear hb0 hq1 hq2
    have hl0 : w.heap.size + 1 < w0.heap.size := by omega
    have hl0' : w.heap.size < w0.heap.size := by omega
    go_wp2_with fail
    refine (SA.out _ HB0.out).mono ?_
    rintro e w3 ⟨rfl, h3⟩
    have z3 := h3.size
    have H03 := Lib.hid h3
    have HW3 := Lib.hid (HB0.out.trans (h3.mono HB0.out.size))
    have l1 : w3.cell? ⟨w.heap.size, 1, none⟩ = some (.string s) := (h3.cell (p := ⟨w.heap.size, 1, none⟩) hl0').trans n1
    have l3 : w3.cell? ⟨w.heap.size, 3, none⟩ = some (.slice ka ks.length kc) := (h3.cell (p := ⟨w.heap.size, 3, none⟩) hl0').trans n3
    clear h3 SA
    have AY := Lib.hid (show ∀ W, Below w3.heap.size w3 W → Calls Try.prog 13 #[.pointer (some ⟨p, 0, none⟩), .slice ka ks.length kc] W fun e w' => AlPost B W p kn fv gv F G d (K kn slots ks) e w' from fun W hW => HKC.out _ kn slots W ((HR.out.later HW3.out).later hW) ((HKD.out.later HW3.out).later hW))
    have hn3 : w.heap.size < w3.heap.size := by omega
    clear HKC
    cases hx : K kn slots ks with
    | none =>
      rw [hx] at AY
      have HV := Lib.hid (show sendM K kn slots (.mk k s nu ks ns at_) may = none by rw [HV0.out, hx]; rfl)
      clear hx
      go_upto_region 5 with fail
      go_region_dies
      all_goals
        refine (AY.out _ ?_).mono ?_
        · repeat (first | with_reducible exact Below.refl _ _ | ((with_reducible refine Below.setCell ?_ ?_ _); rotate_left; focus (first | (simp; done) | (simp; omega) | omega)) | ((with_reducible refine Below.alloc ?_ ?_ _); rotate_left; focus (first | (simp; done) | (simp; omega) | omega)) | (with_reducible refine Below.drew ?_) | ((with_reducible refine Below.trans ?_ (Below.mono AY.out ?_)); rotate_left; focus (first | (simp; done) | (simp; omega) | omega)))
        rintro e w6 ⟨⟨at6, e', hne, rfl⟩, h6⟩
        exact ⟨rfl, OnePost.no HV.out ⟨e', hne, rfl⟩ ((below_down HW3.out hBw).trans (Below.trans (by repeat (first | with_reducible exact Below.refl _ _ | ((with_reducible refine Below.setCell ?_ ?_ _); rotate_left; focus (first | (simp; done) | (simp; omega) | omega)) | ((with_reducible refine Below.alloc ?_ ?_ _); rotate_left; focus (first | (simp; done) | (simp; omega) | omega)) | (with_reducible refine Below.drew ?_) | ((with_reducible refine Below.trans ?_ (Below.mono AY.out ?_)); rotate_left; focus (first | (simp; done) | (simp; omega) | omega)))) h6))⟩
    | some q =>
      obtain ⟨its, s'⟩ := q
      rw [hx] at AY
      have HV := Lib.hid (show sendM K kn slots (.mk k s nu ks ns at_) may = some (.mk 14 s 0 0 0 its, s') by rw [HV0.out, hx]; rfl)
      clear hx
      have p1 : (w3.drew).cell? ⟨w.heap.size, 1, none⟩ = some (.string s) := l1
      have p3 : (w3.drew).cell? ⟨w.heap.size, 3, none⟩ = some (.slice ka ks.length kc) := l3
      go_upto_region 5 with fail
      go_region_held3 (fun w' => w'.cell? ⟨w.heap.size, 1, none⟩ = some (.string s) ∧ w'.cell? ⟨w.heap.size, 3, none⟩ = some (.slice ka ks.length kc))
        (first | with_reducible exact ⟨p1, p3⟩ | with_reducible exact ⟨r1, r3⟩ | (refine ⟨?_, ?_⟩ <;> (repeat rw [World.cell?_setCell_far _ _ _ _ (by first | (simp; done) | (simp; omega))]) <;> with_reducible assumption))
        (first
          | (go_at_call 13
             refine (AY.out _ ?_).mono ?_
             · exact (Below.refl _ _).drew
             rintro e w6 ⟨v6, rfl, hit, hr6, hk6, hb6⟩
             obtain ⟨a6, c6, rfl, -⟩ := id hit.shape
             have hk7 : Kt p w3 w6 := (Kt.of_below ((Below.refl _ _).drew) (by omega)).trans hk6
             have hb7 : Below B w3 w6 := (Below.refl B w3).drew.trans hb6
             have x5 := hk7.keep (HR.out.later HW3.out) ((H03.out.block _ hl0').trans HQ1.out) (by decide) (by decide)
             have x6 := hk7.keep (HR.out.later HW3.out) ((H03.out.block _ hl0).trans HQ2.out) (by decide) (by decide)
             have HZ := Lib.hid x6
             have r1 := cell_of_row w6 w.heap.size 1 _ _ _ x5
             have r3 := cell_of_row w6 w.heap.size 3 _ _ _ x5
             simp at r1 r3
             have y0 := cell_of_row w6 (w.heap.size + 1) 0 _ _ _ x6
             have y1 := cell_of_row w6 (w.heap.size + 1) 1 _ _ _ x6
             have y2 := cell_of_row w6 (w.heap.size + 1) 2 _ _ _ x6
             have y3 := cell_of_row w6 (w.heap.size + 1) 3 _ _ _ x6
             have y4 := cell_of_row w6 (w.heap.size + 1) 4 _ _ _ x6
             have y5 := cell_of_row w6 (w.heap.size + 1) 5 _ _ _ x6
             have yf : ∀ j, w6.frozen? ⟨w.heap.size + 1, j, none⟩ = false := (by intro j; unfold World.frozen?; rw [x6]; simp)
             simp at y0 y1 y2 y3 y4 y5
             have BD := Lib.hid (fun wF hg => box_done (Q := w.heap.size + 1) (wF := wF) HW3.out hpw hBw (by omega) (by omega) hk7 hb7 hr6 hit ⟨_, _, x6⟩ hg)
             clear hit hr6 hk6 hb6 x6 hk7 hb7 x5))
      clear p1 p3
      go_wp2_with fail
      refine bodyPost_ret (v := .agg #[.int .i64 (14), .string (s), .int .i64 (0), .int .i64 (0), .int .i64 (0), (.slice a6 its.length c6)]) (results_cell_row Try.results48 _ _ (w.heap.size + 1) 73 #[.int .i64 (14), .string (s), .int .i64 (0), .int .i64 (0), .int .i64 (0), (.slice a6 its.length c6)] (0, 0) _ rfl (heap_set6 HZ.out _ _ _ _ _ _) Try.underlying73 rfl (by kernel_rfl)) rfl ?_
      have BE := BD.out _ (grownBy_set6 w6 (w.heap.size + 1) (.int .i64 14) (.string s) (.int .i64 0) (.int .i64 0) (.int .i64 0) (.slice a6 its.length c6))
      exact OnePost.yes HV.out rfl BE.1 trivial BE.2.1 BE.2.2.1 BE.2.2.2
  · obtain rfl : may = false := by simpa using hsm
    clear hsm
    have hb0 : Below w.heap.size w ((w.alloc (.cells #[.int .i64 k, .string s, .int .i64 nu, .slice ka ks.length kc, .slice na ns.length nc, .int .i64 at_] 30)).alloc (.cells #[.int .i64 0, .string ⟨#[]⟩, .int .i64 0, .int .i64 0, .int .i64 0, .slice none 0 0] 73)) := ((Below.refl _ _).alloc (Nat.le_refl _) _).alloc (by simp) _
    have hq1 : ((w.alloc (.cells #[.int .i64 k, .string s, .int .i64 nu, .slice ka ks.length kc, .slice na ns.length nc, .int .i64 at_] 30)).alloc (.cells #[.int .i64 0, .string ⟨#[]⟩, .int .i64 0, .int .i64 0, .int .i64 0, .slice none 0 0] 73)).heap[w.heap.size]? = some (.cells #[.int .i64 k, .string s, .int .i64 nu, .slice ka ks.length kc, .slice na ns.length nc, .int .i64 at_] 30 (0, 0)) := (heap_alloc_old _ _ _ (by simp)).trans (heap_alloc_new w _)
    have hq2 : ((w.alloc (.cells #[.int .i64 k, .string s, .int .i64 nu, .slice ka ks.length kc, .slice na ns.length nc, .int .i64 at_] 30)).alloc (.cells #[.int .i64 0, .string ⟨#[]⟩, .int .i64 0, .int .i64 0, .int .i64 0, .slice none 0 0] 73)).heap[w.heap.size + 1]? = some (.cells #[.int .i64 0, .string ⟨#[]⟩, .int .i64 0, .int .i64 0, .int .i64 0, .slice none 0 0] 73 (0, 0)) := heap_alloc2_new w _ _
    have hsz0 : ((w.alloc (.cells #[.int .i64 k, .string s, .int .i64 nu, .slice ka ks.length kc, .slice na ns.length nc, .int .i64 at_] 30)).alloc (.cells #[.int .i64 0, .string ⟨#[]⟩, .int .i64 0, .int .i64 0, .int .i64 0, .slice none 0 0] 73)).heap.size = w.heap.size + 2 := by simp
    go_enter Try.func48, Try.ntmps48
    go_upto_region 1 with fail
    generalize ((w.alloc (.cells #[.int .i64 k, .string s, .int .i64 nu, .slice ka ks.length kc, .slice na ns.length nc, .int .i64 at_] 30)).alloc (.cells #[.int .i64 0, .string ⟨#[]⟩, .int .i64 0, .int .i64 0, .int .i64 0, .slice none 0 0] 73)) = w0 at *
    have HB0 := Lib.hid hb0
    have HQ1 := Lib.hid hq1
    have HQ2 := Lib.hid hq2
    have n0 := cell_of_row w0 w.heap.size 0 _ _ _ hq1
    have n1 := cell_of_row w0 w.heap.size 1 _ _ _ hq1
    have n2 := cell_of_row w0 w.heap.size 2 _ _ _ hq1
    have n3 := cell_of_row w0 w.heap.size 3 _ _ _ hq1
    have n4 := cell_of_row w0 w.heap.size 4 _ _ _ hq1
    have n5 := cell_of_row w0 w.heap.size 5 _ _ _ hq1
    simp at n0 n1 n2 n3 n4 n5
    clear hb0 hq1 hq2
    have hl0 : w.heap.size + 1 < w0.heap.size := by omega
    have hl0' : w.heap.size < w0.heap.size := by omega
    go_wp2_with fail
    refine (SA.out _ HB0.out).mono ?_
    rintro e w3 ⟨rfl, h3⟩
    have z3 := h3.size
    have H03 := Lib.hid h3
    have HW3 := Lib.hid (HB0.out.trans (h3.mono HB0.out.size))
    have l1 : w3.cell? ⟨w.heap.size, 1, none⟩ = some (.string s) := (h3.cell (p := ⟨w.heap.size, 1, none⟩) hl0').trans n1
    have l3 : w3.cell? ⟨w.heap.size, 3, none⟩ = some (.slice ka ks.length kc) := (h3.cell (p := ⟨w.heap.size, 3, none⟩) hl0').trans n3
    clear h3 SA
    have AY := Lib.hid (show ∀ W, Below w3.heap.size w3 W → Calls Try.prog 13 #[.pointer (some ⟨p, 0, none⟩), .slice ka ks.length kc] W fun e w' => AlPost B W p kn fv gv F G d (K kn slots ks) e w' from fun W hW => HKC.out _ kn slots W ((HR.out.later HW3.out).later hW) ((HKD.out.later HW3.out).later hW))
    have hn3 : w.heap.size < w3.heap.size := by omega
    clear HKC
    cases hx : K kn slots ks with
    | none =>
      rw [hx] at AY
      have HV := Lib.hid (show sendM K kn slots (.mk k s nu ks ns at_) false = none by rw [HV0.out, hx]; rfl)
      clear hx
      go_upto_region 5 with fail
      go_region_dies
      all_goals
        refine (AY.out _ ?_).mono ?_
        · repeat (first | with_reducible exact Below.refl _ _ | ((with_reducible refine Below.setCell ?_ ?_ _); rotate_left; focus (first | (simp; done) | (simp; omega) | omega)) | ((with_reducible refine Below.alloc ?_ ?_ _); rotate_left; focus (first | (simp; done) | (simp; omega) | omega)) | (with_reducible refine Below.drew ?_) | ((with_reducible refine Below.trans ?_ (Below.mono AY.out ?_)); rotate_left; focus (first | (simp; done) | (simp; omega) | omega)))
        rintro e w6 ⟨⟨at6, e', hne, rfl⟩, h6⟩
        exact ⟨rfl, OnePost.no HV.out ⟨e', hne, rfl⟩ ((below_down HW3.out hBw).trans (Below.trans (by repeat (first | with_reducible exact Below.refl _ _ | ((with_reducible refine Below.setCell ?_ ?_ _); rotate_left; focus (first | (simp; done) | (simp; omega) | omega)) | ((with_reducible refine Below.alloc ?_ ?_ _); rotate_left; focus (first | (simp; done) | (simp; omega) | omega)) | (with_reducible refine Below.drew ?_) | ((with_reducible refine Below.trans ?_ (Below.mono AY.out ?_)); rotate_left; focus (first | (simp; done) | (simp; omega) | omega)))) h6))⟩
    | some q =>
      obtain ⟨its, s'⟩ := q
      rw [hx] at AY
      have HV := Lib.hid (show sendM K kn slots (.mk k s nu ks ns at_) false = some (.mk 14 s 0 0 0 its, s') by rw [HV0.out, hx]; rfl)
      clear hx
      have p1 : (w3.drew).cell? ⟨w.heap.size, 1, none⟩ = some (.string s) := l1
      have p3 : (w3.drew).cell? ⟨w.heap.size, 3, none⟩ = some (.slice ka ks.length kc) := l3
      go_upto_region 5 with fail
      go_region_held3 (fun w' => w'.cell? ⟨w.heap.size, 1, none⟩ = some (.string s) ∧ w'.cell? ⟨w.heap.size, 3, none⟩ = some (.slice ka ks.length kc))
        (first | with_reducible exact ⟨p1, p3⟩ | with_reducible exact ⟨r1, r3⟩ | (refine ⟨?_, ?_⟩ <;> (repeat rw [World.cell?_setCell_far _ _ _ _ (by first | (simp; done) | (simp; omega))]) <;> with_reducible assumption))
        (first
          | (go_at_call 13
             refine (AY.out _ ?_).mono ?_
             · exact (Below.refl _ _).drew
             rintro e w6 ⟨v6, rfl, hit, hr6, hk6, hb6⟩
             obtain ⟨a6, c6, rfl, -⟩ := id hit.shape
             have hk7 : Kt p w3 w6 := (Kt.of_below ((Below.refl _ _).drew) (by omega)).trans hk6
             have hb7 : Below B w3 w6 := (Below.refl B w3).drew.trans hb6
             have x5 := hk7.keep (HR.out.later HW3.out) ((H03.out.block _ hl0').trans HQ1.out) (by decide) (by decide)
             have x6 := hk7.keep (HR.out.later HW3.out) ((H03.out.block _ hl0).trans HQ2.out) (by decide) (by decide)
             have HZ := Lib.hid x6
             have r1 := cell_of_row w6 w.heap.size 1 _ _ _ x5
             have r3 := cell_of_row w6 w.heap.size 3 _ _ _ x5
             simp at r1 r3
             have y0 := cell_of_row w6 (w.heap.size + 1) 0 _ _ _ x6
             have y1 := cell_of_row w6 (w.heap.size + 1) 1 _ _ _ x6
             have y2 := cell_of_row w6 (w.heap.size + 1) 2 _ _ _ x6
             have y3 := cell_of_row w6 (w.heap.size + 1) 3 _ _ _ x6
             have y4 := cell_of_row w6 (w.heap.size + 1) 4 _ _ _ x6
             have y5 := cell_of_row w6 (w.heap.size + 1) 5 _ _ _ x6
             have yf : ∀ j, w6.frozen? ⟨w.heap.size + 1, j, none⟩ = false := (by intro j; unfold World.frozen?; rw [x6]; simp)
             simp at y0 y1 y2 y3 y4 y5
             have BD := Lib.hid (fun wF hg => box_done (Q := w.heap.size + 1) (wF := wF) HW3.out hpw hBw (by omega) (by omega) hk7 hb7 hr6 hit ⟨_, _, x6⟩ hg)
             clear hit hr6 hk6 hb6 x6 hk7 hb7 x5))
      clear p1 p3
      go_wp2_with fail
      refine bodyPost_ret (v := .agg #[.int .i64 (14), .string (s), .int .i64 (0), .int .i64 (0), .int .i64 (0), (.slice a6 its.length c6)]) (results_cell_row Try.results48 _ _ (w.heap.size + 1) 73 #[.int .i64 (14), .string (s), .int .i64 (0), .int .i64 (0), .int .i64 (0), (.slice a6 its.length c6)] (0, 0) _ rfl (heap_set6 HZ.out _ _ _ _ _ _) Try.underlying73 rfl (by kernel_rfl)) rfl ?_
      have BE := BD.out _ (grownBy_set6 w6 (w.heap.size + 1) (.int .i64 14) (.string s) (.int .i64 0) (.int .i64 0) (.int .i64 0) (.slice a6 its.length c6))
      exact OnePost.yes HV.out rfl BE.1 trivial BE.2.1 BE.2.2.1 BE.2.2.2
end Go.Proofs.Ytpfgidhchjcomaa
