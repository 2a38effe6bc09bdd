/- The law's own memory, weakly: each object of the document's list has its place, its kind and its size; what its words and bytes are does not matter. Objects laid one behind the other are a chain: the plain law. The document's memory, made the program's: Own, where the words of all objects are read by ref04.Words. The law's own memory: an object's cells, its words and bytes as lists. The words of all the document's objects. The document's objects, some of whose cells are other ones: plain lemmas; and OWN of the predicate. A town's memory while the law lays it: the state, and what a step leaves. A town's memory while the law lays it: the first free cell, an object by its pointer, its place. -/
import Derived.Test.YtibopjjicfiimaaGreatDoorStayL
namespace Go.Proofs.YtibopjjicfiimaaGreatDoor
open Go.RowKit
set_option linter.unusedVariables false
/-- an object: its place, class, kind, size, mark -/
structure Ob where
  at_ : Nat
  cls : Nat
  kind : Int
  size : Nat
  mark : Bool
/-- how many cells follow its head -/
def Ob.cells (o : Ob) : Nat := if o.kind = 2 then (o.size + 7) / 8 else o.size
/-- a block of numbers of a type -/
def NumBlk (w : World) (T : TypeId) (q : IntKind) (C top b len : Nat) : Prop :=
  C ≤ b ∧ ∃ cur : Array Value, w.heap[b]? = some (.cells cur T (0, 0)) ∧ ∀ i, i < len → ∃ y : Nat, y < top ∧ cur[i]? = some (.int q (y : Int))
/-- so many numbers: none, or in such a block -/
def NumSl (w : World) (T : TypeId) (q : IntKind) (C top n : Nat) (v : Value) : Prop :=
  ∃ a c, v = .slice a n c ∧ n ≤ c ∧ c ≤ maxLen ∧ (a = none → c = 0) ∧ (c = 0 ∨ ∃ b, a = some ⟨b, 0, none⟩ ∧ NumBlk w T q C top b n)
/-- an object's eight cells -/
def obL (o : Ob) (wv bv : Value) : List Value := [.int .i64 (o.at_ : Int), .int .u64 (o.cls : Int), .int .i64 o.kind, .int .i64 (o.size : Int), .int .u32 0, .bool o.mark, wv, bv]
/-- an object may be so -/
structure ObOK (w : World) (C : Nat) (o : Ob) (wv bv : Value) : Prop where
  kind : 0 ≤ o.kind ∧ o.kind ≤ 2
  cls : o.cls % 2 = 0 ∧ o.cls ≠ 0 ∧ o.cls < 18446744073709551616
  size : o.size ≤ 1048576 ∧ (o.kind = 2 → 0 < o.size % 8)
  words : NumSl w 30 .u64 C 18446744073709551616 (if o.kind = 2 then 0 else o.size) wv
  bytes : NumSl w 5 .u8 C 256 (if o.kind = 2 then o.size else 0) bv
/-- one stands behind the other -/
def InRow : Nat → List Ob → Prop
  | _, [] => True
  | a, o :: os => o.at_ = a ∧ InRow (a + 2 + o.cells) os
def usedO (os : List Ob) : Nat := (os.map fun o => 2 + o.cells).sum + 2
/-- the list of the document's objects, in memory -/
def TownAt (C : Nat) (w : World) (la : Option Addr) (ln lc : Nat) (os : List Ob) : Prop :=
  ln = os.length ∧ ln ≤ lc ∧ lc ≤ maxLen ∧ InRow 2 os ∧
    ∃ b, la = some ⟨b, 0, none⟩ ∧ C ≤ b ∧ ∃ cur : Array Value, w.heap[b]? = some (.cells cur 65 (0, 0)) ∧ cur.size = 8 * lc ∧
      ∀ i o, os[i]? = some o → ∃ wv bv, ObOK w C o wv bv ∧ ∀ j, j < 8 → cur[8 * i + j]? = (obL o wv bv)[j]?
section
variable {w w' : World} {T : TypeId} {q : IntKind} {C top b len n : Nat} {v : Value}
/-- what is a number stays one -/
def NumKp (q : IntKind) (top : Nat) (c c' : Array Value) : Prop := ∀ i : Nat, (∃ y : Nat, y < top ∧ c[i]? = some (Value.int q (y : Int))) → ∃ y : Nat, y < top ∧ c'[i]? = some (Value.int q (y : Int))
/-- what matters of memory stays: objects as they are, numbers as numbers -/
def Kp (w w' : World) : Prop := ∀ (b : Nat) (c : Array Value) (T : TypeId), w.heap[b]? = some (Obj.cells c T (0, 0)) →
  (T = 65 → w'.heap[b]? = w.heap[b]?) ∧
  (T = 30 → ∃ c', w'.heap[b]? = some (Obj.cells c' T (0, 0)) ∧ NumKp .u64 18446744073709551616 c c') ∧
  (T = 5 → ∃ c', w'.heap[b]? = some (Obj.cells c' T (0, 0)) ∧ NumKp .u8 256 c c')
theorem NumSl.keepW (h : NumSl w 30 .u64 C 18446744073709551616 n v) (hs : Kp w w') : NumSl w' 30 .u64 C 18446744073709551616 n v := by
  obtain ⟨a, c, h1, h2, h3, h0, h4⟩ := h
  refine ⟨a, c, h1, h2, h3, h0, h4.imp id ?_⟩
  rintro ⟨b, h5, k0, cur, k1, k3⟩
  obtain ⟨c', e1, e3⟩ := (hs b cur _ k1).2.1 rfl
  exact ⟨b, h5, k0, c', e1, fun i hi => e3 i (k3 i hi)⟩
theorem NumSl.keepB (h : NumSl w 5 .u8 C 256 n v) (hs : Kp w w') : NumSl w' 5 .u8 C 256 n v := by
  obtain ⟨a, c, h1, h2, h3, h0, h4⟩ := h
  refine ⟨a, c, h1, h2, h3, h0, h4.imp id ?_⟩
  rintro ⟨b, h5, k0, cur, k1, k3⟩
  obtain ⟨c', e1, e3⟩ := (hs b cur _ k1).2.2 rfl
  exact ⟨b, h5, k0, c', e1, fun i hi => e3 i (k3 i hi)⟩
theorem ObOK.keep {o : Ob} {wv bv : Value} (h : ObOK w C o wv bv) (hs : Kp w w') : ObOK w' C o wv bv :=
  ⟨h.kind, h.cls, h.size, h.words.keepW hs, h.bytes.keepB hs⟩
theorem TownAt.keep {la : Option Addr} {ln lc : Nat} {os : List Ob} (h : TownAt C w la ln lc os) (hs : Kp w w') : TownAt C w' la ln lc os := by
  obtain ⟨h1, h2, h3, h4, b, h5, h6, cur, h7, h8, h9⟩ := h
  refine ⟨h1, h2, h3, h4, b, h5, h6, cur, by rw [(hs b cur _ h7).1 rfl]; exact h7, h8, fun i o ho => ?_⟩
  obtain ⟨wv, bv, k1, k2⟩ := h9 i o ho
  exact ⟨wv, bv, k1.keep hs, k2⟩
/-- blocks of these types alone matter -/
def SameT (w w' : World) : Prop := ∀ (b : Nat) (c : Array Value) (T : TypeId), w.heap[b]? = some (Obj.cells c T (0, 0)) → (T = 30 ∨ T = 5 ∨ T = 65) → w'.heap[b]? = w.heap[b]?
theorem SameT.kp (h : SameT w w') : Kp w w' := by
  intro b c T hb
  refine ⟨fun e => h b c T hb (Or.inr (Or.inr e)), fun e => ⟨c, (h b c T hb (Or.inl e)).trans hb, fun _ => id⟩, fun e => ⟨c, (h b c T hb (Or.inr (Or.inl e))).trans hb, fun _ => id⟩⟩
theorem Kp.refl (w : World) : Kp w w := SameT.kp fun _ _ _ _ _ => rfl
theorem Kp.trans {w'' : World} (h : Kp w w') (k : Kp w' w'') : Kp w w'' := by
  intro b c T hb
  refine ⟨fun e => ?_, fun e => ?_, fun e => ?_⟩
  · have h1 := (h b c T hb).1 e
    exact ((k b c T (h1.trans hb)).1 e).trans h1
  · obtain ⟨c1, e1, e3⟩ := (h b c T hb).2.1 e
    obtain ⟨c2, d1, d3⟩ := (k b c1 T e1).2.1 e
    exact ⟨c2, d1, fun i x => d3 i (e3 i x)⟩
  · obtain ⟨c1, e1, e3⟩ := (h b c T hb).2.2 e
    obtain ⟨c2, d1, d3⟩ := (k b c1 T e1).2.2 e
    exact ⟨c2, d1, fun i x => d3 i (e3 i x)⟩
theorem TownAt.same {la : Option Addr} {ln lc : Nat} {os : List Ob} (h : TownAt C w la ln lc os) (hs : SameT w w') : TownAt C w' la ln lc os := h.keep hs.kp
theorem same_below (hb : Below w.heap.size w w') : SameT w w' := fun b c T h _ => hb.block b (Array.getElem?_eq_some_iff.1 h).1
/-- a store into a block of the law's own heap -/
theorem same_set {p o : Nat} {c : Array Value} {u : Value} (h : w.heap[p]? = some (Obj.cells c 29 (0, 0))) : SameT w (w.setCell ⟨p, o, none⟩ u) := fun b c2 T h2 hT => by
  refine Below.heap_setCell _ _ _ _ ?_
  intro e
  have e : b = p := e
  subst e
  rw [h] at h2
  simp only [Option.some.injEq, Obj.cells.injEq] at h2
  obtain ⟨-, rfl, -⟩ := h2
  rcases hT with h | h | h <;> exact absurd h (by decide)
end
/-- the predicate of the law's walk -/
def TownQ (C : Nat) (w : World) (la : Option Addr) (ln lc : Nat) : Prop := ∃ os, TownAt C w la ln lc os ∧ 0 < ln ∧ usedO os ≤ 3000
theorem townQ_later {C : Nat} (W W' : World) (la : Option Addr) (ln lc : Nat) (h : TownQ C W la ln lc) (hb : Below W.heap.size W W') : TownQ C W' la ln lc := by
  obtain ⟨os, h1, h2⟩ := h
  exact ⟨os, h1.same (same_below hb), h2⟩
theorem townQ_set {C : Nat} (W : World) (la : Option Addr) (ln lc p : Nat) (c : Array Value) (u : Value) (h : TownQ C W la ln lc) (hp : W.heap[p]? = some (Obj.cells c 29 (0, 0))) (o : Nat) : TownQ C (W.setCell ⟨p, o, none⟩ u) la ln lc := by
  obtain ⟨os, h1, h2⟩ := h
  exact ⟨os, h1.same (same_set hp), h2⟩
end Go.Proofs.YtibopjjicfiimaaGreatDoor
namespace Go.Proofs.YtibopjjicfiimaaGreatDoor
open Go.RowKit
set_option linter.unusedVariables false
/-- what follows an object's head -/
def BodyOK (o : Ob) (b : List Nat) : Prop := b.length = o.cells ∧ SmallW b ∧ (o.kind = 2 → b.getD (o.cells - 1) 0 / 2 ^ (8 * (o.size % 8)) = 0)
def infoO (o : Ob) : Nat := (packZ o.kind (o.size : Int) 0 o.mark).toNat
def obW (o : Ob) (b : List Nat) : List Nat := o.cls :: infoO o :: b
/-- a head may be so -/
def HeadP (o : Ob) : Prop := (0 ≤ o.kind ∧ o.kind ≤ 2) ∧ (o.cls % 2 = 0 ∧ o.cls ≠ 0 ∧ o.cls < 18446744073709551616) ∧ (o.size ≤ 1048576 ∧ (o.kind = 2 → 0 < o.size % 8))
inductive Laid : List Ob → List Nat → Prop
  | nil : Laid [] []
  | snoc {os : List Ob} {acc b : List Nat} {o : Ob} : Laid os acc → HeadP o → BodyOK o b → Laid (os ++ [o]) (acc ++ obW o b)
theorem info_is {o : Ob} (h : HeadP o) : (infoO o : Int) = packZ o.kind (o.size : Int) 0 o.mark ∧ infoO o < 18446744073709551616 ∧ hK (infoO o) = o.kind ∧ hS (infoO o) = (o.size : Int) ∧ hH (infoO o) = 0 ∧ (infoO o : Int) / 137438953472 % 8 = 0 := by
  obtain ⟨⟨k0, k1⟩, -, s1, -⟩ := h
  unfold infoO packZ hK hS hH
  cases o.mark <;> simp <;> omega
theorem Laid.small {os : List Ob} {acc : List Nat} (h : Laid os acc) : SmallW acc := by
  induction h with
  | nil => intro x hx; cases hx
  | snoc _ hp hb ih =>
    intro x hx
    rcases List.mem_append.1 hx with hx | hx
    · exact ih x hx
    · rcases List.mem_cons.1 hx with rfl | hx
      · exact hp.2.1.2.2
      · rcases List.mem_cons.1 hx with rfl | hx
        · exact (info_is hp).2.1
        · exact hb.2.1 x hx
theorem Laid.len {os : List Ob} {acc : List Nat} (h : Laid os acc) : 2 + acc.length = usedO os := by
  induction h with
  | nil => rfl
  | snoc _ hp hb ih =>
    unfold usedO at ih ⊢
    rw [List.length_append, List.map_append, List.sum_append]
    show 2 + (_ + (_ + 1 + 1)) = _
    rw [hb.1]
    simp only [List.map_cons, List.map_nil, List.sum_cons, List.sum_nil]
    omega
theorem chain_congr {M M' : Nat → Nat} {free : Nat} (hM : ∀ j, j < free → M' j = M j) : ∀ (l : List Nat) (a : Nat), Chain4 M free a l → (∀ x ∈ l, x + 2 ≤ free) → Chain4 M' free a l
  | [], a, h, _ => h
  | x :: l, a, ⟨h1, ⟨u, hh, ht⟩, h3⟩, hx => by
    have hle := Chain4.le h3
    have hz := cells_cz hh
    have e0 : M' a = M a := hM a (by omega)
    have e1 : M' (a + 1) = M (a + 1) := hM _ (by omega)
    have ec : cellsM M' a = cellsM M a := by unfold cellsM; rw [e0, e1]
    refine ⟨h1, ⟨by rw [e0, e1]; exact u, by rw [e1]; exact hh, fun hk hr => ?_⟩, ?_⟩
    · rw [e1] at hk hr ⊢
      rw [ec, hM _ (by omega)]
      exact ht hk hr
    · rw [ec]; exact chain_congr hM l _ h3 (fun y hy => hx y (List.mem_cons_of_mem _ hy))
theorem chain_snoc {M : Nat → Nat} {free : Nat} : ∀ (l : List Nat) (a : Nat), Chain4 M free a l → StandsAt M free → Chain4 M (free + 2 + cellsM M free) a (l ++ [free])
  | [], a, h, hs => by
    obtain rfl : a = free := h
    exact ⟨rfl, hs, rfl⟩
  | x :: l, a, ⟨h1, h2, h3⟩, hs => ⟨h1, h2, chain_snoc l _ h3 hs⟩
theorem loadM_pre {acc b : List Nat} {j : Nat} (hj : j < 2 + acc.length) : loadM (acc ++ b) j = loadM acc j := by
  unfold loadM
  by_cases h : 2 ≤ j
  · rw [if_pos ⟨h, by rw [List.length_append]; omega⟩, if_pos ⟨h, hj⟩, List.getD_eq_getElem?_getD, List.getD_eq_getElem?_getD, List.getElem?_append_left (by omega)]
  · rw [if_neg (fun hh => h hh.1), if_neg (fun hh => h hh.1)]
theorem loadM_suf {acc b : List Nat} {k : Nat} (hk : k < b.length) : loadM (acc ++ b) (2 + acc.length + k) = b.getD k 0 := by
  unfold loadM
  rw [if_pos ⟨by omega, by rw [List.length_append]; omega⟩, List.getD_eq_getElem?_getD, List.getD_eq_getElem?_getD, List.getElem?_append_right (by omega), show 2 + acc.length + k - 2 - acc.length = k by omega]
/-- where objects stand -/
def standsL : Nat → List Ob → List Nat
  | _, [] => []
  | a, o :: os => a :: standsL (a + 2 + o.cells) os
theorem Laid.chain {os : List Ob} {acc : List Nat} (h : Laid os acc) : ∃ l, Chain4 (loadM acc) (2 + acc.length) 2 l ∧ (∀ x ∈ l, x + 2 ≤ 2 + acc.length ∧ (hK (loadM acc (x + 1)) = 2 → 0 < hS (loadM acc (x + 1)) % 8)) := by
  induction h with
  | nil => exact ⟨[], rfl, fun x hx => by cases hx⟩
  | @snoc os acc b o hl hp hb ih =>
    obtain ⟨l, h1, h2⟩ := ih
    have hlen : (obW o b).length = 2 + o.cells := by unfold obW; rw [List.length_cons, List.length_cons, hb.1]; omega
    obtain ⟨i1, i2, i3, i4, i5, i6⟩ := info_is hp
    have e0 : loadM (acc ++ obW o b) (2 + acc.length) = o.cls := by have := loadM_suf (acc := acc) (b := obW o b) (k := 0) (by omega); rw [Nat.add_zero] at this; rw [this]; rfl
    have e1 : loadM (acc ++ obW o b) (2 + acc.length + 1) = infoO o := by rw [loadM_suf (k := 1) (by omega)]; rfl
    have u : UnOK (o.cls : Int) (infoO o : Int) := by
      obtain ⟨⟨k0, k1⟩, ⟨c0, c1, c2⟩, s0, -⟩ := hp
      refine ⟨by omega, by omega, by rw [i4]; omega, by rw [i3]; exact k1, i6⟩
    have hcz : cellsM (loadM (acc ++ obW o b)) (2 + acc.length) = o.cells := by
      have hz := cells_cz (M := loadM (acc ++ obW o b)) (a := 2 + acc.length) (by rw [e1]; exact i5)
      rw [hz, cz4 (by rw [e0, e1]; exact u) (by rw [e1]; exact i2), e1, i3, i4]
      unfold Ob.cells
      split <;> omega
    have hst : StandsAt (loadM (acc ++ obW o b)) (2 + acc.length) := by
      refine ⟨by rw [e0, e1]; exact u, by rw [e1]; exact i5, fun hk hr => ?_⟩
      rw [e1, i3] at hk
      rw [hcz, e1, i4]
      have h8 := hp.2.2.2 hk
      have hc1 : 1 ≤ o.cells := by unfold Ob.cells; rw [if_pos hk]; omega
      rw [show 2 + acc.length + 2 + o.cells - 1 = 2 + acc.length + (o.cells - 1 + 1 + 1) by omega, loadM_suf (by omega)]
      show b.getD (o.cells - 1) 0 / _ = 0
      rw [show ((o.size : Int) % 8).toNat = o.size % 8 by omega]
      exact hb.2.2 hk
    refine ⟨l ++ [2 + acc.length], ?_, fun x hx => ?_⟩
    · have := chain_snoc l 2 (chain_congr (fun j hj => loadM_pre hj) l 2 h1 (fun x hx => (h2 x hx).1)) hst
      rw [hcz] at this
      rw [List.length_append, hlen]
      rw [show 2 + (acc.length + (2 + o.cells)) = 2 + acc.length + 2 + o.cells by omega]
      exact this
    · rcases List.mem_append.1 hx with hx | hx
      · obtain ⟨b1, b2⟩ := h2 x hx
        refine ⟨by rw [List.length_append]; omega, ?_⟩
        rw [loadM_pre (by omega)]; exact b2
      · obtain rfl := List.mem_singleton.1 hx
        refine ⟨by rw [List.length_append, hlen]; omega, ?_⟩
        rw [e1, i3, i4]
        intro hk
        have := hp.2.2.2 hk
        omega
end Go.Proofs.YtibopjjicfiimaaGreatDoor
namespace Go.Proofs.YtibopjjicfiimaaGreatDoor
open Go.RowKit
set_option linter.unusedVariables false
set_option maxRecDepth 100000 in
set_option maxHeartbeats 3200000 in
theorem own_of (la : Option Addr) (ln lc : Nat) (os : List Ob) (w : World) (hos : os ≠ []) (hu : usedO os ≤ 3000)
    (WRD : ∀ W, Below w.heap.size w W → Calls Tryz.prog 19 #[.agg #[.int .i64 3000, .slice la ln lc, .int .u32 0]] W fun e w' => ∃ v acc, e = .returned v ∧ WordsAt w' v acc ∧ Laid os acc ∧ Below W.heap.size W w') :
    Calls Tryz.prog 6 #[.agg #[.int .i64 3000, .slice la ln lc, .int .u32 0]] w fun e w' => ∃ h B free S M, e = .returned (.tuple #[.pointer (some ⟨h, 0, none⟩), .int .i64 0]) ∧ w.heap.size ≤ B ∧ B ≤ w'.heap.size ∧ HeapAt w' B h 3000 free S M ∧ CollOK 3000 S M ∧ GoodH 3000 S M ∧ Below w.heap.size w w' := by
  obtain ⟨i2, hi2, hc0, hc1, hc2⟩ := info_parts cellInfo
  have HW := Lib.hid WRD
  clear WRD
  go_enter Tryz.func6, Tryz.ntmps6
  go_upto_region 1 with fail
  obtain ⟨w1, hw1⟩ : ∃ w1, w1 = w.alloc (.cells #[.int .i64 3000, .slice la ln lc, .int .u32 0] 29) := ⟨_, rfl⟩
  rw [← hw1]
  have hx1 : w1.heap[w.heap.size]? = some (.cells #[.int .i64 3000, .slice la ln lc, .int .u32 0] 29 (0, 0)) := by rw [hw1]; exact heap_alloc_new w _
  have hb1 : Below w.heap.size w w1 := by rw [hw1]; exact (Below.refl _ w).alloc (Nat.le_refl _) _
  have hl1 := (Array.getElem?_eq_some_iff.1 hx1).1
  have y0 := cellO hx1 0
  have y1 := cellO hx1 1
  have y2 := cellO hx1 2
  simp at y0 y1 y2
  have B1 := Lib.hid hb1; have HX1 := Lib.hid hx1
  clear hw1 hx1 hb1
  go_wp2_with fail
  refine (HW.out w1 B1.out).mono ?_
  rintro e w2 ⟨v, acc, rfl, hwa, hl, hg2⟩
  have hlen := hl.len
  have HSM := Lib.hid hl.small
  obtain ⟨l, hch, h8⟩ := hl.chain
  have HCH := Lib.hid hch; have H8 := Lib.hid h8
  have h0 : 0 < acc.length := by
    have h1 : 4 ≤ usedO os := by
      cases os with
      | nil => exact absurd rfl hos
      | cons o os => unfold usedO; simp only [List.map_cons, List.sum_cons]; omega
    omega
  clear hl hch h8
  have B2 := Lib.hid (B1.out.trans (hg2.mono B1.out.size)); have HWA := Lib.hid hwa; have G2 := Lib.hid hg2
  obtain ⟨va, vc, rfl, -⟩ := hwa.get
  have hs2 := hg2.size
  clear hwa hg2 y0 y1 y2
  go_wp2_with fail
  go_loopg [4, 10] acc.length (fun gg s4 s10 wr => ∃ (j : Nat) (ga : Option Addr) (gn gc : Nat), gg = acc.length - j ∧ j ≤ acc.length ∧ s10 = .int .i64 (j : Int) ∧ s4 = .slice ga gn gc ∧ wr.ownsRow w2.heap.size 39 1 (.slice ga gn gc) j (wordVals (acc.take j)) ∧ Below w2.heap.size w2 wr)
  case atStart => exact ⟨0, none, 0, 0, rfl, by omega, rfl, rfl, World.ownsRow_nil _ _ _ _, Below.refl _ _⟩
  case round =>
    obtain ⟨j, ga, gn, gc, hgj, hj, rfl, rfl, how, hbr⟩ := hrel
    have HGJ := Lib.hid hgj; have HOW := Lib.hid how; have HBR := Lib.hid hbr
    have hzr := hbr.size
    by_cases hlt : j < acc.length
    · obtain ⟨va', vc', hue, -, -, hcu⟩ := (HWA.out.later hbr).get
      simp only [Value.slice.injEq, true_and] at hue
      obtain ⟨rfl, rfl⟩ := hue
      obtain ⟨xb, xo, rfl, hxl, hxc⟩ := hcu j hlt
      have HN := Lib.hid (show acc.take (j + 1) = acc.take j ++ [acc[j]] from List.take_succ_eq_append_getElem hlt)
      obtain ⟨x, hx⟩ : ∃ x, acc[j] = x := ⟨_, rfl⟩
      rw [hx] at hxc HN
      clear hgj how hbr hcu hx
      go_wp2_with (at_builtin; refine wpList_append_own _ rfl _ _ 40 rfl w2.heap.size 39 i2 (.int .u64 0) 1 8 Tryz.underlying40 hi2 hc0 hc1 hc2 rfl (by decide) _ _ _ rfl (HOW.out.alloc _) ⟨wr.heap.size, 0, none⟩ 1 1 [.int .u64 (x : Int)] rfl rfl ?oc1 ?oc2 ?oc3 ?oc4 ?oc5 ?_)
      case oc1 =>
        intro k u hk
        match k, hk with
        | 0, hk => simp at hk; subst hk; simp [Addr.add]
      case oc2 => intro u hu; simp at hu; subst hu; rfl
      case oc3 => unfold maxLen; omega
      case oc4 => omega
      case oc5 => simp; omega
      intro v' w7 hown' hgrow _
      obtain ⟨g7, c7, rfl, hg7, -⟩ := World.ownsRow.form hown' (by omega)
      have HO7 := Lib.hid (show w7.ownsRow w2.heap.size 39 1 (.slice (some ⟨g7, 0, none⟩) (j + 1) c7) (j + 1) (wordVals (acc.take (j + 1))) by
        rw [HN.out, show wordVals (acc.take j ++ [x]) = wordVals (acc.take j) ++ [.int .u64 (x : Int)] by simp [wordVals]]
        exact hown')
      have HB7 := Lib.hid ((HBR.out.alloc (by omega) _).grown hgrow (by simp; omega) (fun q hq => (HOW.out.lt q hq).1))
      clear hown' hgrow
      go_wp2_with fail
      go_roundg (acc.length - (j + 1))
      case measure => rw [HGJ.out]; omega
      case rel => exact ⟨j + 1, _, _, _, rfl, by omega, by go_num, rfl, HO7.out, HB7.out⟩
    · obtain rfl : j = acc.length := by omega
      rw [List.take_length] at how
      have hw := words_of_owns how
      have LD := Lib.hid (load_yes 3000 _ acc l wr hw HSM.out (by omega) (by omega) h0 (by omega) HCH.out)
      have hx2 := (((G2.out.trans (hbr.mono G2.out.size)).block _ hl1)).trans HX1.out
      have y0 := cellO hx2 0
      have y2 := cellO hx2 2
      simp at y0 y2
      have BR := Lib.hid (B2.out.trans (hbr.mono B2.out.size))
      clear hgj how hbr hw hx2
      go_wp2_with fail
      refine LD.out.mono ?_
      rintro e w8 ⟨h, rfl, hh, hg8⟩
      have hM : ∀ i, loadM acc i < 18446744073709551616 := loadM_small HSM.out
      have hco := chain_coll (N := 3000) HCH.out (by omega) (by omega) hM (fun x hx => (H8.out x hx).2)
      have hgo : GoodH 3000 (setAll 3000 (fun _ => false) l) (loadM acc) := by
        intro a ha
        obtain ⟨h1, h2, u, -⟩ := hco.obj a ha
        have hz := cz4 u (hco.small _)
        exact ⟨⟨by omega, by omega, ha, u⟩, fun hk => by rw [if_neg hk] at hz; omega⟩
      have HH := Lib.hid hh; have HCO := Lib.hid hco; have HGO := Lib.hid hgo
      have B8 := Lib.hid (BR.out.trans (hg8.mono BR.out.size))
      have hs8 := hg8.size
      have hsr := BR.out.size
      clear hh hco hgo hM hg8 LD y0 y2
      go_wp2_with fail
      exact bodyPost_ret (v := .tuple #[.pointer (some ⟨h, 0, none⟩), .int .i64 0]) (by simp [results, Tryz.results6, go_sem]) rfl ⟨h, _, _, _, _, rfl, hsr, hs8, HH.out, HCO.out, HGO.out, B8.out⟩
end Go.Proofs.YtibopjjicfiimaaGreatDoor
namespace Go.Proofs.YtibopjjicfiimaaGreatDoor
open Go.RowKit
set_option linter.unusedVariables false
section
variable {w : World} {C n : Nat} {v : Value}
/-- numbers, as a list -/
theorem NumSl.words (h : NumSl w 30 .u64 C 18446744073709551616 n v) : ∃ ys, ys.length = n ∧ SmallW ys ∧ WordsAt w v ys := by
  obtain ⟨a, c, rfl, h2, h3, h0, h4⟩ := h
  rcases h4 with rfl | ⟨b, rfl, -, cur, k1, k3⟩
  · obtain rfl : n = 0 := by omega
    exact ⟨[], rfl, (fun x hx => (by cases hx)), a, 0, rfl, h2, h3, Or.inl rfl, h0⟩
  · have key : ∀ m, m ≤ n → ∃ ys : List Nat, ys.length = m ∧ SmallW ys ∧ ∀ i, i < m → cur[0 + i]? = (wordVals ys)[i]? := by
      intro m
      induction m with
      | zero => intro _; exact ⟨[], rfl, (fun x hx => (by cases hx)), fun i hi => by omega⟩
      | succ m ih =>
        intro hm
        obtain ⟨ys, e1, e2, e3⟩ := ih (by omega)
        obtain ⟨y, hy, hc⟩ := k3 (0 + m) (by omega)
        refine ⟨ys ++ [y], by simp [e1], fun x hx => ?_, fun i hi => ?_⟩
        · rcases List.mem_append.1 hx with hx | hx
          · exact e2 x hx
          · rw [List.mem_singleton.1 hx]; exact hy
        · rw [show wordVals (ys ++ [y]) = wordVals ys ++ [.int .u64 (y : Int)] by simp [wordVals]]
          by_cases him : i < m
          · rw [List.getElem?_append_left (by rw [wordVals_length]; omega)]; exact e3 i him
          · obtain rfl : i = m := by omega
            rw [List.getElem?_append_right (by rw [wordVals_length]; omega), wordVals_length, e1, Nat.sub_self]
            exact hc
    obtain ⟨ys, e1, e2, e3⟩ := key n (Nat.le_refl _)
    subst e1
    refine ⟨ys, rfl, e2, _, c, rfl, h2, h3, Or.inr ⟨b, 0, rfl, fun k hk => ?_⟩, h0⟩
    rw [wordVals_length] at hk
    rw [cellO k1 (0 + k)]
    exact e3 k hk
/-- bytes, as a list -/
theorem NumSl.bytes (h : NumSl w 5 .u8 C 256 n v) : ∃ ys : List UInt8, ys.length = n ∧ ∃ a c, v = .slice a n c ∧ n ≤ c ∧ c ≤ maxLen ∧ RowAt w a (Lib.byteCells ys) := by
  obtain ⟨a, c, rfl, h2, h3, h0, h4⟩ := h
  rcases h4 with rfl | ⟨b, rfl, -, cur, k1, k3⟩
  · obtain rfl : n = 0 := by omega
    exact ⟨[], rfl, a, 0, rfl, h2, h3, Or.inl rfl⟩
  · have key : ∀ m, m ≤ n → ∃ ys : List UInt8, ys.length = m ∧ ∀ i, i < m → cur[0 + i]? = (Lib.byteCells ys)[i]? := by
      intro m
      induction m with
      | zero => intro _; exact ⟨[], rfl, fun i hi => by omega⟩
      | succ m ih =>
        intro hm
        obtain ⟨ys, e1, e3⟩ := ih (by omega)
        obtain ⟨y, hy, hc⟩ := k3 (0 + m) (by omega)
        refine ⟨ys ++ [UInt8.ofNat y], by simp [e1], fun i hi => ?_⟩
        rw [show Lib.byteCells (ys ++ [UInt8.ofNat y]) = Lib.byteCells ys ++ [.int .u8 (y : Int)] by
          simp only [Lib.byteCells, List.map_append, List.map_cons, List.map_nil]
          rw [show (UInt8.ofNat y).toNat = y by simp; omega]]
        by_cases him : i < m
        · rw [List.getElem?_append_left (by rw [Lib.byteCells_length]; omega)]; exact e3 i him
        · obtain rfl : i = m := by omega
          rw [List.getElem?_append_right (by rw [Lib.byteCells_length]; omega), Lib.byteCells_length, e1, Nat.sub_self]
          exact hc
    obtain ⟨ys, e1, e3⟩ := key n (Nat.le_refl _)
    refine ⟨ys, e1, _, c, rfl, h2, h3, Or.inr ⟨b, 0, rfl, fun k hk => ?_⟩⟩
    rw [Lib.byteCells_length, e1] at hk
    rw [cellO k1 (0 + k)]
    exact e3 k hk
theorem TownAt.get {la : Option Addr} {ln lc : Nat} {os : List Ob} (h : TownAt C w la ln lc os) {i : Nat} {o : Ob} (ho : os[i]? = some o) :
    ∃ b wv bv, la = some ⟨b, 0, none⟩ ∧ b < w.heap.size ∧ i < ln ∧ ObOK w C o wv bv ∧ ∀ j, j < 8 → w.cell? ⟨b, 8 * i + j, none⟩ = (obL o wv bv)[j]? := by
  obtain ⟨h1, h2, h3, h4, b, h5, h6, cur, h7, h8, h9⟩ := h
  obtain ⟨wv, bv, k1, k2⟩ := h9 i o ho
  exact ⟨b, wv, bv, h5, (Array.getElem?_eq_some_iff.1 h7).1, by rw [h1]; exact (List.getElem?_eq_some_iff.1 ho).1, k1, fun j hj => by rw [cellO h7 (8 * i + j)]; exact k2 j hj⟩
end
end Go.Proofs.YtibopjjicfiimaaGreatDoor
namespace Go.Proofs.YtibopjjicfiimaaGreatDoor
open Go.RowKit
set_option linter.unusedVariables false
theorem head_p {w : World} {C : Nat} {o : Ob} {wv bv : Value} (h : ObOK w C o wv bv) : HeadP o := ⟨h.kind, h.cls, h.size⟩
theorem head_ck {o : Ob} (h : HeadP o) : checkZ (o.cls : Int) o.kind (o.size : Int) 0 = 0 := by
  obtain ⟨⟨k0, k1⟩, ⟨c0, c1, c2⟩, s0, -⟩ := h
  rw [checkZ_ok]
  omega
/-- there is room for one more -/
theorem town_room {os : List Ob} {i : Nat} {acc : List Nat} {o : Ob} (h : Laid (os.take i) acc) (ht : os.take (i + 1) = os.take i ++ [o]) (hu : usedO os ≤ 3000) : acc.length + 2 + o.cells ≤ 3000 := by
  have h1 := h.len
  have h2 : usedO (os.take (i + 1)) ≤ usedO os := by
    unfold usedO
    have := List.take_append_drop (i + 1) os
    have h3 : (os.map fun o => 2 + o.cells).sum = ((os.take (i + 1)).map fun o => 2 + o.cells).sum + ((os.drop (i + 1)).map fun o => 2 + o.cells).sum := by
      rw [← List.sum_append, ← List.map_append, this]
    omega
  have h4 : usedO (os.take (i + 1)) = usedO (os.take i) + (2 + o.cells) := by
    rw [ht]
    unfold usedO
    rw [List.map_append, List.sum_append]
    simp only [List.map_cons, List.map_nil, List.sum_cons, List.sum_nil]
    omega
  omega
theorem own_ne {w : World} {B e n b T : Nat} {v : Value} {xs : List Value} {c : Array Value} (h : w.ownsRow B e 1 v n xs) (hb : w.heap[b]? = some (.cells c T (0, 0))) (hT : e ≠ T) : some b ≠ v.ownBlock := by
  intro hh
  obtain ⟨-, ⟨rfl, -⟩ | ⟨g, cap, cur, rfl, -, hg, -⟩⟩ := h
  · simp [Value.ownBlock] at hh
  · simp [Value.ownBlock] at hh
    subst hh
    rw [hg] at hb
    simp only [Option.some.injEq, Obj.cells.injEq] at hb
    exact hT hb.2.1
/-- a step of a word's bytes -/
theorem word_step {x r t : Nat} {y : Nat} (hx : x < 256 ^ (t + r - 8)) (hr : r ≤ 8) (ht : t ≤ 7) (hy : y < 256) :
    x * 256 < 18446744073709551616 ∧ (8 ≤ t + r → x * 256 + y < 256 ^ (t + 1 + r - 8) ∧ x * 256 + y < 18446744073709551616) ∧ (¬ 8 ≤ t + r → x * 256 < 256 ^ (t + 1 + r - 8)) := by
  have h1 : 256 ^ (t + r - 8) ≤ 256 ^ 7 := Nat.pow_le_pow_right (by omega) (by omega)
  have h2 : (256 : Nat) ^ 7 = 72057594037927936 := rfl
  refine ⟨by omega, fun h => ?_, fun h => ?_⟩
  · rw [show t + 1 + r - 8 = (t + r - 8) + 1 by omega, Nat.pow_succ]
    omega
  · rw [show t + r - 8 = 0 by omega, Nat.pow_zero] at hx
    have : 0 < 256 ^ (t + 1 + r - 8) := Nat.pow_pos (by omega)
    omega
set_option maxRecDepth 100000 in
set_option maxHeartbeats 6400000 in
theorem rwords_town (C : Nat) (la : Option Addr) (ln lc : Nat) (os : List Ob) (w : World) (h : TownAt C w la ln lc os) (hu : usedO os ≤ 3000) :
    Calls Tryz.prog 19 #[.agg #[.int .i64 3000, .slice la ln lc, .int .u32 0]] w fun e w' => ∃ v acc, e = .returned v ∧ WordsAt w' v acc ∧ Laid os acc ∧ Below w.heap.size w w' := by
  obtain ⟨i2, hi2, hc0, hc1, hc2⟩ := info_parts u64Info
  have HA := Lib.hid h
  have HLN := Lib.hid (show ln = os.length from h.1)
  clear h
  go_enter Tryz.func19, Tryz.ntmps19
  go_upto_region 1 with fail
  obtain ⟨w1, hw1⟩ : ∃ w1, w1 = w.alloc (.cells #[.int .i64 3000, .slice la ln lc, .int .u32 0] 29) := ⟨_, rfl⟩
  rw [← hw1]
  have hx1 : w1.heap[w.heap.size]? = some (.cells #[.int .i64 3000, .slice la ln lc, .int .u32 0] 29 (0, 0)) := by rw [hw1]; exact heap_alloc_new w _
  have hb1 : Below w.heap.size w w1 := by rw [hw1]; exact (Below.refl _ w).alloc (Nat.le_refl _) _
  have hl1 := (Array.getElem?_eq_some_iff.1 hx1).1
  have B1 := Lib.hid hb1; have HX1 := Lib.hid hx1
  clear hw1 hx1 hb1
  go_wp2_with fail
  go_loopg [3, 4] ln (fun gg s3 s4 wr => ∃ (i : Nat) (acc : List Nat) (ga : Option Addr) (gn gc : Nat), gg = ln - i ∧ i ≤ ln ∧ s4 = .int .i64 (i : Int) ∧ s3 = .slice ga gn gc ∧ wr.ownsRow w1.heap.size 30 1 (.slice ga gn gc) acc.length (wordVals acc) ∧ Laid (os.take i) acc ∧ Below w1.heap.size w1 wr)
  case atStart => exact ⟨0, [], none, 0, 0, rfl, by omega, rfl, rfl, World.ownsRow_nil _ _ _ _, Laid.nil, Below.refl _ _⟩
  case round =>
    obtain ⟨i, acc, ga, gn, gc, hgi, hi, rfl, rfl, how, hla, hbr⟩ := hrel
    have HGI := Lib.hid hgi; have HOW := Lib.hid how; have HBR := Lib.hid hbr; have HLA := Lib.hid hla
    have hzr := hbr.size
    have hx2 := (hbr.block _ hl1).trans HX1.out
    have y1 := cellO hx2 1
    simp at y1
    clear hgi hx2
    by_cases hlt : i < ln
    · have hio : i < os.length := by have := HLN.out; omega
      have ho := List.getElem?_eq_getElem hio
      have htk : os.take (i + 1) = os.take i ++ [os[i]] := List.take_succ_eq_append_getElem hio
      obtain ⟨o, hoe⟩ : ∃ o, os[i] = o := ⟨_, rfl⟩
      rw [hoe] at ho htk
      have HTK := Lib.hid htk
      have hal := town_room hla htk hu
      obtain ⟨b, wv, bv, rfl, hbl, -, hob, hcl'⟩ := HA.out.get ho
      obtain ⟨ys, hyl, hys, hyw⟩ := hob.words.words
      obtain ⟨wa, wc, rfl, -⟩ := hyw.get
      rw [hyl] at hyw hcl'
      obtain ⟨bs, hbs, ba, bc, rfl, hbc1, hbc2, hrb⟩ := hob.bytes.bytes
      have hBB := B1.out.trans (hbr.mono B1.out.size)
      have hcl : ∀ j, j < 8 → wr.cell? ⟨b, 8 * i + j, none⟩ = _ := fun j hj => (hBB.cell (p := ⟨b, 8 * i + j, none⟩) hbl).trans (hcl' j hj)
      have c0 := hcl 0 (by omega)
      have c1 := hcl 1 (by omega)
      have c2 := hcl 2 (by omega)
      have c3 := hcl 3 (by omega)
      have c4 := hcl 4 (by omega)
      have c5 := hcl 5 (by omega)
      have c6 := hcl 6 (by omega)
      have c7 := hcl 7 (by omega)
      rw [Nat.mul_comm 8 i] at c0 c1 c2 c3 c4 c5 c6 c7
      simp [obL] at c0 c1 c2 c3 c4 c5 c6 c7
      have HP := Lib.hid (head_p hob)
      have hop := head_p hob
      obtain ⟨n1, n2, n3, n4, n5, n6⟩ := info_is hop
      have PK := Lib.hid (fun W => rpack_yes (o.cls : Int) o.kind (o.size : Int) 0 o.mark (by omega) (by omega) (head_ck hop) W)
      rw [← n1] at PK
      have HYW := Lib.hid hyw; have HRB := Lib.hid hrb; have HBB := Lib.hid hBB; have HYS := Lib.hid hys
      clear how hla hbr hcl hcl' ho hob hop htk hoe n1 n3 n4 n5 n6 hyw hrb hBB hys
      obtain ⟨at_, cls, kind, size, mark⟩ := o
      dsimp only at *
      obtain ⟨inf, hinf⟩ : ∃ inf, infoO ⟨at_, cls, kind, size, mark⟩ = inf := ⟨_, rfl⟩
      have HINF := Lib.hid hinf
      rw [hinf] at PK n2
      obtain ⟨w2, hw2⟩ : ∃ w2, w2 = wr.alloc (.cells #[.int .i64 (at_ : Int), .int .u64 (cls : Int), .int .i64 kind, .int .i64 (size : Int), .int .u32 0, .bool mark, .slice wa (if kind = 2 then 0 else size) wc, .slice ba (if kind = 2 then size else 0) bc] 65) := ⟨_, rfl⟩
      have hx2 : w2.heap[wr.heap.size]? = some (.cells #[.int .i64 (at_ : Int), .int .u64 (cls : Int), .int .i64 kind, .int .i64 (size : Int), .int .u32 0, .bool mark, .slice wa (if kind = 2 then 0 else size) wc, .slice ba (if kind = 2 then size else 0) bc] 65 (0, 0)) := by rw [hw2]; exact heap_alloc_new wr _
      have hb2 : Below wr.heap.size wr w2 := by rw [hw2]; exact (Below.refl _ wr).alloc (Nat.le_refl _) _
      have HX2 := Lib.hid hx2; have HB2 := Lib.hid hb2
      obtain ⟨wn, hwn⟩ : ∃ wn, (if kind = 2 then 0 else size) = wn := ⟨_, rfl⟩
      obtain ⟨bn, hbn⟩ : ∃ bn, (if kind = 2 then size else 0) = bn := ⟨_, rfl⟩
      rw [hwn, hbn] at HX2 hw2
      rw [hwn] at c6 hyl HYW
      rw [hbn] at c7 hbs hbc1
      have hce : wn + (bn + 7) / 8 = Ob.cells ⟨at_, cls, kind, size, mark⟩ := by
        rw [← hwn, ← hbn]; unfold Ob.cells
        by_cases hk : kind = 2 <;> simp [hk]
      have HWN := Lib.hid hwn; have HBN := Lib.hid hbn
      clear hinf hx2 hb2 hwn hbn
      go_upto_region 6 with fail
      rw [← hw2]
      have z1 := cellO HX2.out 1
      have z2 := cellO HX2.out 2
      have z3 := cellO HX2.out 3
      have z4 := cellO HX2.out 4
      have z5 := cellO HX2.out 5
      simp at z1 z2 z3 z4 z5
      have hzw := (Array.getElem?_eq_some_iff.1 HX2.out).1
      clear hw2 c0 c1 c2 c3 c4 c5 c6 c7 y1
      go_upto_region 7 with (go_at_call 50; refine (PK.out _).mono ?_; rintro e w3 ⟨rfl, hg3⟩; have HG3 := Lib.hid hg3; clear hg3)
      have hz3 := HG3.out.size
      have O3 := Lib.hid (owns_later HOW.out (HB2.out.trans (HG3.out.mono (by omega))))
      clear z1 z2 z3 z4 z5 PK
      go_wp2_with (at_builtin; refine wpList_append_own _ rfl _ _ 56 rfl w1.heap.size 30 i2 (.int .u64 0) 1 8 Tryz.underlying56 hi2 hc0 hc1 hc2 rfl (by decide) _ _ _ rfl ((O3.out.alloc _).alloc _) ⟨w3.heap.size + 1, 0, none⟩ 2 2 [.int .u64 (cls : Int), .int .u64 (inf : Int)] rfl rfl ?oc1 ?oc2 ?oc3 ?oc4 ?oc5 ?_)
      case oc1 =>
        intro k u hk
        match k, hk with
        | 0, hk => simp at hk; subst hk; simp [Addr.add]
        | 1, hk => simp at hk; subst hk; simp [Addr.add]
      case oc2 => intro u hu; simp at hu; rcases hu with rfl | rfl <;> rfl
      case oc3 => unfold maxLen; omega
      case oc4 => omega
      case oc5 => simp; omega
      intro v7 w7 hown' hgrow _
      obtain ⟨ga7, gn7, gc7, rfl⟩ := owns_slice hown'
      have HO7 := Lib.hid (show w7.ownsRow w1.heap.size 30 1 (.slice ga7 gn7 gc7) (acc.length + 2) (wordVals (acc ++ [cls, inf])) by
        rw [show wordVals (acc ++ [cls, inf]) = wordVals acc ++ [.int .u64 (cls : Int), .int .u64 (inf : Int)] by simp [wordVals]]
        exact hown')
      have hb3 : Below w1.heap.size w1 w3 := HBR.out.trans ((HB2.out.trans (HG3.out.mono (by omega))).mono hzr)
      have HB7 := Lib.hid (((hb3.alloc (by omega) _).alloc (by simp; omega) _).grown hgrow (by simp; omega) (fun q hq => (O3.out.lt q hq).1))
      have hx3 := (HG3.out.block _ hzw).trans HX2.out
      have hx7 := ((hgrow.block wr.heap.size (by simp; omega) (own_ne O3.out hx3 (by decide))).trans ((Below.heap_alloc _ _ _ (by simp; omega)).trans (Below.heap_alloc _ _ _ (by omega)))).trans hx3
      have HX7 := Lib.hid hx7
      have hz7 := (Array.getElem?_eq_some_iff.1 hx7).1
      have z6 := cellO hx7 6
      simp at z6
      have hbase7 : w1.heap.size ≤ w7.heap.size := HB7.out.size
      have W7 := Lib.hid (HYW.out.later (B1.out.trans (HB7.out.mono B1.out.size)))
      clear hown' hgrow hb3 hx3 hx7
      go_wp2_with (at_builtin; refine wpList_append_words rfl _ _ 56 rfl w1.heap.size 30 i2 Tryz.underlying56 hi2 hc0 hc1 hc2 _ _ _ rfl HO7.out _ ys rfl W7.out ?d1 ?d2 ?_)
      case d1 => omega
      case d2 => exact hbase7
      intro v8 w8 ho8 hgr8
      obtain ⟨ga8, gn8, gc8, rfl⟩ := owns_slice ho8
      have HO8 := Lib.hid (show w8.ownsRow w1.heap.size 30 1 (.slice ga8 gn8 gc8) (acc.length + 2 + ys.length) (wordVals (acc ++ cls :: inf :: ys)) by
        rw [show wordVals (acc ++ cls :: inf :: ys) = wordVals (acc ++ [cls, inf]) ++ wordVals ys by simp [wordVals], hyl]
        exact ho8)
      have HB8 := Lib.hid (HB7.out.grown hgr8 hbase7 (fun q hq => (HO7.out.lt q hq).1))
      have hx8 := (hgr8.block wr.heap.size hz7 (own_ne HO7.out HX7.out (by decide))).trans HX7.out
      have HX8 := Lib.hid hx8
      have hz8 := (Array.getElem?_eq_some_iff.1 hx8).1
      have hbase8 : w1.heap.size ≤ w8.heap.size := HB8.out.size
      clear ho8 hgr8 z6 hx8
      go_wp2_with fail
      obtain ⟨wo, hwo⟩ : ∃ wo, wo = wr := ⟨_, rfl⟩
      subst hwo
      go_loopg [3, 8] (bn + 8) (fun gg s3 s8 wq => ∃ (g : Nat) (gs : List Nat) (qa : Option Addr) (qn qc : Nat), gg = bn + 8 - 8 * g ∧ 8 * g ≤ bn + 7 ∧ gs.length = g ∧ s8 = .int .i64 ((8 * g : Nat) : Int) ∧ s3 = .slice qa qn qc ∧ SmallW gs ∧ (bn < 8 * g → gs.getD (g - 1) 0 / 2 ^ (8 * (bn % 8)) = 0) ∧ wq.ownsRow w1.heap.size 30 1 (.slice qa qn qc) (acc.length + 2 + ys.length + g) (wordVals (acc ++ cls :: inf :: (ys ++ gs))) ∧ wq.heap[wo.heap.size]? = w8.heap[wo.heap.size]? ∧ Below w1.heap.size w1 wq)
      case atStart => exact ⟨0, [], _, _, _, rfl, by omega, rfl, rfl, rfl, (fun x hx => by cases hx), (fun h => by omega), by rw [List.append_nil]; exact HO8.out, rfl, HB8.out⟩
      case round =>
        obtain ⟨g, gs, qa, qn, qc, hgg, hg8, hgl, rfl, rfl, hgs, hlast, hoq, hxq, hbq⟩ := hrel
        have HGG := Lib.hid hgg; have HGL := Lib.hid hgl; have HGS := Lib.hid hgs; have HLAST := Lib.hid hlast; have HOQ := Lib.hid hoq; have HXQ := Lib.hid hxq; have HBQ := Lib.hid hbq
        have hxo := hxq.trans HX8.out
        have HXO := Lib.hid hxo
        have hzq := (Array.getElem?_eq_some_iff.1 hxo).1
        have hsq := hbq.size
        have z7 := cellO hxo 7
        simp at z7
        obtain ⟨e, he⟩ : ∃ e, 8 * g = e := ⟨_, rfl⟩
        rw [he]
        have HE := Lib.hid he
        clear hgg hgl hgs hlast hoq hxq hbq hxo
        by_cases hlt2 : e < bn
        · obtain ⟨bb, bo, rfl, hbc⟩ : ∃ bb bo, ba = some ⟨bb, bo, none⟩ ∧ ∀ W, Below w.heap.size w W → ∀ j (hj : j < bn), ∃ y : Nat, y < 256 ∧ W.cell? ⟨bb, bo + j, none⟩ = some (.int .u8 (y : Int)) := by
            rcases HRB.out with h | ⟨bb, bo, hba, hbv⟩
            · have := congrArg List.length h
              rw [Lib.byteCells_length, hbs] at this
              exact absurd this (by show ¬ bn = 0; omega)
            · refine ⟨bb, bo, hba, fun W hW j hj => ⟨(bs[j]'(by omega)).toNat, (bs[j]'(by omega)).toNat_lt, ?_⟩⟩
              have h1 := hbv j (by rw [Lib.byteCells_length]; omega)
              rw [show (Lib.byteCells bs)[j]? = some (.int .u8 ((bs[j]'(by omega)).toNat : Int)) by unfold Lib.byteCells; rw [List.getElem?_map, List.getElem?_eq_getElem (by omega)]; rfl] at h1
              exact (hW.cell (p := ⟨bb, bo + j, none⟩) (lt_of_cell h1)).trans h1
          have HBC := Lib.hid hbc
          obtain ⟨r, hr⟩ : ∃ r, min 8 (bn - e) = r := ⟨_, rfl⟩
          have hr1 : r ≤ 8 ∧ (∀ k, k < 8 → (e + k < bn ↔ k < r)) := ⟨by omega, fun k hk => by omega⟩
          have HR := Lib.hid hr
          clear hbc hr he
          go_wp2_with fail
          obtain ⟨wq, hwq⟩ : ∃ wq, wq = wr := ⟨_, rfl⟩
          subst hwq
          go_loopg [9, 10] 8 (fun gg s9 s10 wv => ∃ t x k : Nat, gg = 8 - t ∧ t + k = 8 ∧ s9 = .int .u64 (x : Int) ∧ s10 = .int .i64 ((k : Int) - 1) ∧ x < 256 ^ (t + r - 8) ∧ Below wq.heap.size wq wv)
          case atStart => exact ⟨0, 0, 8, rfl, rfl, rfl, rfl, Nat.pow_pos (by omega), Below.refl _ _⟩
          case round =>
            obtain ⟨t, x, k, hgt, htk, rfl, rfl, hx, hbv⟩ := hrel
            have HGT := Lib.hid hgt; have HX := Lib.hid hx; have HBV := Lib.hid hbv
            have z7v : wr.cell? ⟨wo.heap.size, 7, none⟩ = some (.slice (some ⟨bb, bo, none⟩) bn bc) := (hbv.cell (p := ⟨wo.heap.size, 7, none⟩) hzq).trans z7
            clear hgt
            by_cases hk0 : 0 < k
            · obtain ⟨k, rfl⟩ : ∃ k', k = k' + 1 := ⟨k - 1, by omega⟩
              have hkr := hr1.2 k (by omega)
              rw [show ((k + 1 : Nat) : Int) - 1 = (k : Int) by omega]
              by_cases hin : e + k < bn
              · obtain ⟨y, hy, hyc⟩ := HBC.out wr (B1.out.trans ((HBQ.out.trans (hbv.mono hsq)).mono B1.out.size)) (e + k) hin
                obtain ⟨s1, s2, -⟩ := word_step (y := y) hx hr1.1 (by omega) hy
                obtain ⟨s2, s3⟩ := s2 (by omega)
                have S2 := Lib.hid s2
                have hin' : (e : Int) + (k : Int) < (bn : Int) := by omega
                clear hx hbv hkr s2
                go_wp2_with fail
                go_roundg (8 - (t + 1))
                case measure => rw [HGT.out]; omega
                case rel => exact ⟨t + 1, x * 256 + y, k, rfl, by omega, by go_num, by go_num, S2.out, HBV.out⟩
              · obtain ⟨s1, -, s2⟩ := word_step (y := 0) hx hr1.1 (by omega) (by omega)
                have S2 := Lib.hid (s2 (by omega))
                have hin' : ¬ (e : Int) + (k : Int) < (bn : Int) := by omega
                clear hx hbv hkr s2
                go_wp2_with fail
                go_roundg (8 - (t + 1))
                case measure => rw [HGT.out]; omega
                case rel => exact ⟨t + 1, x * 256, k, rfl, by omega, by go_num, by go_num, S2.out, HBV.out⟩
            · obtain rfl : k = 0 := by omega
              obtain rfl : t = 8 := by omega
              rw [show 8 + r - 8 = r by omega] at hx
              have hx64 : x < 18446744073709551616 := Nat.lt_of_lt_of_le hx (Nat.le_trans (Nat.pow_le_pow_right (by omega) hr1.1) (by decide))
              have hsv := hbv.size
              have OV := Lib.hid (owns_later HOQ.out hbv)
              have hxv := (hbv.block _ hzq).trans HXO.out
              have HXV := Lib.hid hxv
              have hzv := (Array.getElem?_eq_some_iff.1 hxv).1
              have HNL := Lib.hid (show bn < 8 * (g + 1) → x / 2 ^ (8 * (bn % 8)) = 0 from fun h => by
                have h1 := HE.out; have h2 := HR.out
                have h3 : bn % 8 = r := by omega
                rw [h3, Nat.pow_mul]
                exact Nat.div_eq_of_lt hx)
              have BV := Lib.hid (HBQ.out.trans (hbv.mono hsq))
              have hg1 : acc.length + 2 + ys.length + g ≤ 3000 := by have h1 := HE.out; omega
              clear hbv hx hxv z7v
              go_wp2_with (at_builtin; refine wpList_append_own _ rfl _ _ 56 rfl w1.heap.size 30 i2 (.int .u64 0) 1 8 Tryz.underlying56 hi2 hc0 hc1 hc2 rfl (by decide) _ _ _ rfl (OV.out.alloc _) ⟨wr.heap.size, 0, none⟩ 1 1 [.int .u64 (x : Int)] rfl rfl ?e1 ?e2 ?e3 ?e4 ?e5 ?_)
              case e2 => rfl
              case e3 => unfold maxLen; omega
              case e4 => omega
              case e5 => omega
              intro v9 w9 ho9 hgr9 _
              obtain ⟨ga9, gn9, gc9, rfl⟩ := owns_slice ho9
              have HO9 := Lib.hid (show w9.ownsRow w1.heap.size 30 1 (.slice ga9 gn9 gc9) (acc.length + 2 + ys.length + (g + 1)) (wordVals (acc ++ cls :: inf :: (ys ++ (gs ++ [x])))) by
                rw [show wordVals (acc ++ cls :: inf :: (ys ++ (gs ++ [x]))) = wordVals (acc ++ cls :: inf :: (ys ++ gs)) ++ [.int .u64 (x : Int)] by simp [wordVals], hyl]
                exact ho9)
              have HB9 := Lib.hid ((BV.out.alloc (by omega) _).grown hgr9 (by simp; omega) (fun q hq => (OV.out.lt q hq).1))
              have HX9 := Lib.hid (show w9.heap[wo.heap.size]? = w8.heap[wo.heap.size]? from ((hgr9.block wo.heap.size (by simp; omega) (own_ne OV.out HXV.out (by decide))).trans ((Below.heap_alloc _ _ _ (by omega)).trans HXV.out)).trans HX8.out.symm)
              have HGS2 := Lib.hid (show SmallW (gs ++ [x]) from fun z hz => by
                rcases List.mem_append.1 hz with h | h
                · exact HGS.out z h
                · rw [List.mem_singleton.1 h]; exact hx64)
              clear ho9 hgr9
              go_wp2_with fail
              go_roundg (bn + 8 - 8 * (g + 1))
              case measure => rw [HGG.out]; have := HE.out; omega
              case rel =>
                have h1 := HE.out
                have h2 := HGL.out
                exact ⟨g + 1, gs ++ [x], _, _, _, rfl, by omega, by rw [List.length_append, h2]; rfl, by go_num, rfl, HGS2.out, fun h => by rw [Nat.add_sub_cancel, ← h2, List.getD_eq_getElem?_getD, List.getElem?_concat_length]; exact HNL.out (by omega), HO9.out, HX9.out, HB9.out⟩
        · have LN := Lib.hid (show Laid (os.take (i + 1)) (acc ++ cls :: inf :: (ys ++ gs)) by
            have h1 := HE.out; have h2 := HGL.out; have h3 := HWN.out; have h4 := HBN.out
            rw [HTK.out, show acc ++ cls :: inf :: (ys ++ gs) = acc ++ obW ⟨at_, cls, kind, size, mark⟩ (ys ++ gs) by unfold obW; rw [HINF.out]]
            refine Laid.snoc HLA.out HP.out ⟨by rw [List.length_append]; omega, fun z hz => ?_, fun hk => ?_⟩
            · rcases List.mem_append.1 hz with h | h
              · exact HYS.out z h
              · exact HGS.out z h
            · have hk : kind = 2 := hk
              rw [if_pos hk] at h3 h4
              have hy0 : ys = [] := List.length_eq_zero_iff.1 (by omega)
              have hp8 := HP.out.2.2.2 hk
              have hp8 : 0 < size % 8 := hp8
              rw [hy0, List.nil_append]
              have := HLAST.out (by omega)
              rw [show Ob.cells ⟨at_, cls, kind, size, mark⟩ = g by omega, show (Ob.size ⟨at_, cls, kind, size, mark⟩) = bn by show size = bn; omega]
              exact this)
          have hgl2 : acc.length + 2 + ys.length + g = (acc ++ cls :: inf :: (ys ++ gs)).length := by rw [List.length_append, List.length_cons, List.length_cons, List.length_append, HGL.out]; omega
          have HOE := Lib.hid (hgl2 ▸ HOQ.out)
          have hlm : ln ≤ 9223372036854775807 := Nat.le_trans HA.out.2.1 HA.out.2.2.1
          clear he
          go_wp2_with fail
          go_roundg (ln - (i + 1))
          case measure => rw [HGI.out]; omega
          case rel => exact ⟨i + 1, _, _, _, _, rfl, by omega, by go_num, rfl, HOE.out, LN.out, HBQ.out⟩
    · obtain rfl : i = ln := by omega
      have hla2 := HLA.out
      rw [List.take_of_length_le (by have := HLN.out; omega)] at hla2
      have HL2 := Lib.hid hla2
      have HW2 := Lib.hid (words_of_owns how)
      have HB2 := Lib.hid (B1.out.trans (hbr.mono B1.out.size))
      clear how hla hla2 hbr
      go_wp2_with fail
      go_ret
      exact ⟨_, acc, rfl, HW2.out, HL2.out, HB2.out⟩
end Go.Proofs.YtibopjjicfiimaaGreatDoor
namespace Go.Proofs.YtibopjjicfiimaaGreatDoor
open Go.RowKit
set_option linter.unusedVariables false
theorem own_town (C : Nat) (w : World) (la : Option Addr) (ln lc : Nat) (h : TownQ C w la ln lc) :
    Calls Tryz.prog 6 #[.agg #[.int .i64 3000, .slice la ln lc, .int .u32 0]] w fun e w' => ∃ h B free S M, e = .returned (.tuple #[.pointer (some ⟨h, 0, none⟩), .int .i64 0]) ∧ w.heap.size ≤ B ∧ B ≤ w'.heap.size ∧ HeapAt w' B h 3000 free S M ∧ CollOK 3000 S M ∧ GoodH 3000 S M ∧ Below w.heap.size w w' := by
  obtain ⟨os, h1, h2, h3⟩ := h
  refine own_of la ln lc os w ?_ h3 fun W hb => rwords_town C la ln lc os W (h1.same (same_below hb)) h3
  intro e
  subst e
  have := h1.1
  simp at this
  omega
section
variable {w : World} {T : TypeId} {q : IntKind} {C top b len n p o : Nat} {v u : Value} {c : Array Value}
theorem NumBlk.setO (h : NumBlk w T q C top b len) (hp : w.heap[p]? = some (Obj.cells c 65 (0, 0))) (hT : T ≠ 65) : NumBlk (w.setCell ⟨p, o, none⟩ u) T q C top b len := by
  obtain ⟨k0, cur, k1, k3⟩ := h
  refine ⟨k0, cur, ?_, k3⟩
  rw [Below.heap_setCell _ _ _ _ (by
    intro e
    have e : b = p := e
    subst e
    rw [hp] at k1
    simp at k1
    exact hT k1.2.symm)]
  exact k1
theorem NumSl.setO (h : NumSl w T q C top n v) (hp : w.heap[p]? = some (Obj.cells c 65 (0, 0))) (hT : T ≠ 65) : NumSl (w.setCell ⟨p, o, none⟩ u) T q C top n v := by
  obtain ⟨a, cc, h1, h2, h3, h0, h4⟩ := h
  refine ⟨a, cc, h1, h2, h3, h0, h4.imp id ?_⟩
  rintro ⟨b, h5, h6⟩
  exact ⟨b, h5, h6.setO hp hT⟩
theorem ObOK.setO {x : Ob} {wv bv : Value} (h : ObOK w C x wv bv) (hp : w.heap[p]? = some (Obj.cells c 65 (0, 0))) : ObOK (w.setCell ⟨p, o, none⟩ u) C x wv bv :=
  ⟨h.kind, h.cls, h.size, h.words.setO hp (by decide), h.bytes.setO hp (by decide)⟩
end
theorem inRow_set : ∀ (os : List Ob) (a i : Nat) (o o' : Ob), os[i]? = some o → o'.at_ = o.at_ → o'.cells = o.cells → InRow a os → InRow a (os.set i o')
  | [], _, _, _, _, h, _, _, _ => by simp at h
  | x :: xs, a, 0, o, o', h, h1, h2, ⟨k1, k2⟩ => by
    simp at h
    subst h
    exact ⟨h1.trans k1, by show InRow (a + 2 + o'.cells) xs; rw [h2]; exact k2⟩
  | x :: xs, a, i + 1, o, o', h, h1, h2, ⟨k1, k2⟩ => ⟨k1, inRow_set xs _ i o o' (by simpa using h) h1 h2 k2⟩
theorem usedO_set : ∀ (os : List Ob) (i : Nat) (o o' : Ob), os[i]? = some o → o'.cells = o.cells → usedO (os.set i o') = usedO os
  | [], _, _, _, h, _ => by simp at h
  | x :: xs, 0, o, o', h, h2 => by
    simp at h
    subst h
    unfold usedO
    simp only [List.set_cons_zero, List.map_cons, List.sum_cons, h2]
  | x :: xs, i + 1, o, o', h, h2 => by
    have := usedO_set xs i o o' (by simpa using h) h2
    unfold usedO at this ⊢
    simp only [List.set_cons_succ, List.map_cons, List.sum_cons]
    omega
theorem inRow_lt : ∀ (os : List Ob) (a i : Nat) (o : Ob), InRow a os → os[i]? = some o → a ≤ o.at_ ∧ o.at_ + 2 + o.cells ≤ a + (os.map fun o => 2 + o.cells).sum
  | [], _, _, _, _, h => by simp at h
  | x :: xs, a, 0, o, ⟨k1, k2⟩, h => by
    simp at h
    subst h
    simp only [List.map_cons, List.sum_cons]
    omega
  | x :: xs, a, i + 1, o, ⟨k1, k2⟩, h => by
    have := inRow_lt xs _ i o k2 (by simpa using h)
    simp only [List.map_cons, List.sum_cons]
    omega
/-- where it stands -/
theorem TownAt.bound {C : Nat} {w : World} {la : Option Addr} {ln lc i : Nat} {os : List Ob} {o : Ob} (h : TownAt C w la ln lc os) (ho : os[i]? = some o) : 2 ≤ o.at_ ∧ o.at_ + 2 + o.cells ≤ usedO os := by
  have := inRow_lt os 2 i o h.2.2.2.1 ho
  unfold usedO
  omega
theorem two_each : ∀ os : List Ob, os.length * 2 + 2 ≤ usedO os
  | [] => by decide
  | o :: os => by
    have := two_each os
    unfold usedO at this ⊢
    simp only [List.map_cons, List.sum_cons, List.length_cons]
    omega
/-- an object's cell becomes another one -/
theorem TownAt.put {C : Nat} {w : World} {la : Option Addr} {ln lc i b j : Nat} {os : List Ob} {o o' : Ob} {u : Value} (h : TownAt C w la ln lc os) (ho : os[i]? = some o) (hla : la = some ⟨b, 0, none⟩) (hj : j < 8)
    (hat : o'.at_ = o.at_) (hce : o'.cells = o.cells)
    (hu : ∀ wv bv, ObOK w C o wv bv → ∃ wv' bv', ObOK w C o' wv' bv' ∧ obL o' wv' bv' = (obL o wv bv).set j u) :
    TownAt C (w.setCell ⟨b, 8 * i + j, none⟩ u) la ln lc (os.set i o') := by
  obtain ⟨h1, h2, h3, h4, b', h5, h6, cur, h7, h8, h9⟩ := h
  have hbb : b' = b := by rw [h5] at hla; simp at hla; exact hla
  subst hbb
  have hi : i < os.length := (List.getElem?_eq_some_iff.1 ho).1
  refine ⟨by rw [List.length_set]; exact h1, h2, h3, inRow_set _ _ _ _ _ ho hat hce h4, b', hla, h6, cur.setIfInBounds (8 * i + j) u, heap_setCell_same _ _ _ _ _ _ h7, by simp; exact h8, fun k x hk => ?_⟩
  rw [List.getElem?_set] at hk
  by_cases hki : i = k
  · subst hki
    rw [if_pos rfl, if_pos hi] at hk
    simp only [Option.some.injEq] at hk
    subst hk
    obtain ⟨wv, bv, k1, k2⟩ := h9 i o ho
    obtain ⟨wv', bv', m1, m2⟩ := hu wv bv k1
    refine ⟨wv', bv', m1.setO h7, fun t ht => ?_⟩
    rw [m2, Array.getElem?_setIfInBounds, List.getElem?_set]
    by_cases hjt : j = t
    · subst hjt
      rw [if_pos rfl, if_pos rfl, if_pos (by omega), if_pos (by simp [obL]; omega)]
    · rw [if_neg (by omega), if_neg hjt]; exact k2 t ht
  · rw [if_neg hki] at hk
    obtain ⟨wv, bv, k1, k2⟩ := h9 k x hk
    refine ⟨wv, bv, k1.setO h7, fun t ht => ?_⟩
    rw [Array.getElem?_setIfInBounds, if_neg (by omega)]
    exact k2 t ht
/-- a number in a block of numbers -/
theorem numKp_set {q : IntKind} {top o y : Nat} {c : Array Value} (hy : y < top) : NumKp q top c (c.setIfInBounds o (.int q (y : Int))) := by
  rintro i ⟨z, hz, hi⟩
  have hs := (Array.getElem?_eq_some_iff.1 hi).1
  rw [Array.getElem?_setIfInBounds]
  by_cases ho : o = i
  · rw [if_pos ho, if_pos (by omega)]; exact ⟨y, hy, rfl⟩
  · rw [if_neg ho]; exact ⟨z, hz, hi⟩
theorem kp_setW {w : World} {p o y : Nat} {c : Array Value} (h : w.heap[p]? = some (Obj.cells c 30 (0, 0))) (hy : y < 18446744073709551616) : Kp w (w.setCell ⟨p, o, none⟩ (.int .u64 (y : Int))) := by
  intro b c2 T hb
  by_cases e : b = p
  · subst e
    rw [h] at hb
    simp only [Option.some.injEq, Obj.cells.injEq] at hb
    obtain ⟨rfl, rfl, -⟩ := hb
    exact ⟨fun e => absurd e (by decide), fun _ => ⟨_, heap_setCell_same _ _ _ _ _ _ h, numKp_set hy⟩, fun e => absurd e (by decide)⟩
  · have hs : (w.setCell ⟨p, o, none⟩ (.int .u64 (y : Int))).heap[b]? = w.heap[b]? := Below.heap_setCell _ _ _ _ e
    exact ⟨fun _ => hs, fun e => ⟨c2, hs.trans (e ▸ hb), fun _ => id⟩, fun e => ⟨c2, hs.trans (e ▸ hb), fun _ => id⟩⟩
theorem kp_setB {w : World} {p o y : Nat} {c : Array Value} (h : w.heap[p]? = some (Obj.cells c 5 (0, 0))) (hy : y < 256) : Kp w (w.setCell ⟨p, o, none⟩ (.int .u8 (y : Int))) := by
  intro b c2 T hb
  by_cases e : b = p
  · subst e
    rw [h] at hb
    simp only [Option.some.injEq, Obj.cells.injEq] at hb
    obtain ⟨rfl, rfl, -⟩ := hb
    exact ⟨fun e => absurd e (by decide), fun e => absurd e (by decide), fun _ => ⟨_, heap_setCell_same _ _ _ _ _ _ h, numKp_set hy⟩⟩
  · have hs : (w.setCell ⟨p, o, none⟩ (.int .u8 (y : Int))).heap[b]? = w.heap[b]? := Below.heap_setCell _ _ _ _ e
    exact ⟨fun _ => hs, fun e => ⟨c2, hs.trans (e ▸ hb), fun _ => id⟩, fun e => ⟨c2, hs.trans (e ▸ hb), fun _ => id⟩⟩
/-- the law's own heaps stay -/
def FH (w w' : World) : Prop := ∀ (q : Nat) (c : Array Value), w.heap[q]? = some (Obj.cells c 29 (0, 0)) → w'.heap[q]? = w.heap[q]?
theorem FH.refl (w : World) : FH w w := fun _ _ _ => rfl
theorem FH.trans {w w' w'' : World} (h : FH w w') (k : FH w' w'') : FH w w'' := fun q c hq => (k q c ((h q c hq).trans hq)).trans (h q c hq)
theorem FH.below {w w' : World} (h : Below w.heap.size w w') : FH w w' := fun q c hq => h.block q (Array.getElem?_eq_some_iff.1 hq).1
theorem FH.set {w : World} {p o : Nat} {c : Array Value} {T : TypeId} {u : Value} (h : w.heap[p]? = some (Obj.cells c T (0, 0))) (hT : T ≠ 29) : FH w (w.setCell ⟨p, o, none⟩ u) := fun q c2 h2 => by
  refine Below.heap_setCell _ _ _ _ ?_
  intro e
  have e : q = p := e
  subst e
  rw [h] at h2
  simp only [Option.some.injEq, Obj.cells.injEq] at h2
  exact hT h2.2.1
end Go.Proofs.YtibopjjicfiimaaGreatDoor
namespace Go.Proofs.YtibopjjicfiimaaGreatDoor
open Go.RowKit
set_option linter.unusedVariables false
/-- what does not change of an object: place, kind, size -/
abbrev Sg := Nat × Int × Nat
def sgO (o : Ob) : Sg := (o.at_, o.kind, o.size)
def cellsS (s : Sg) : Nat := if s.2.1 = 2 then (s.2.2 + 7) / 8 else s.2.2
def usedS (L : List Sg) : Nat := (L.map fun s => 2 + cellsS s).sum + 2
theorem usedS_os (os : List Ob) : usedS (os.map sgO) = usedO os := by unfold usedS usedO; rw [List.map_map]; rfl
theorem usedS_snoc (L : List Sg) (s : Sg) : usedS (L ++ [s]) = usedS L + (2 + cellsS s) := by
  unfold usedS
  rw [List.map_append, List.sum_append]
  simp only [List.map_cons, List.map_nil, List.sum_cons, List.sum_nil]
  omega
/-- the list of objects, in memory or none -/
def TownL (C : Nat) (w : World) (la : Option Addr) (ln lc : Nat) (L : List Sg) : Prop :=
  ∃ os : List Ob, os.map sgO = L ∧ ((la = none ∧ ln = 0 ∧ lc = 0 ∧ os = []) ∨ (0 < ln ∧ TownAt C w la ln lc os))
/-- numbers stay numbers -/
def KpN (w w' : World) : Prop := ∀ (b : Nat) (c : Array Value) (T : TypeId), w.heap[b]? = some (Obj.cells c T (0, 0)) →
  (T = 30 → ∃ c', w'.heap[b]? = some (Obj.cells c' T (0, 0)) ∧ NumKp .u64 18446744073709551616 c c') ∧
  (T = 5 → ∃ c', w'.heap[b]? = some (Obj.cells c' T (0, 0)) ∧ NumKp .u8 256 c c')
section
variable {w w' w'' : World} {T : TypeId} {C n : Nat} {v : Value} {la : Option Addr} {ln lc : Nat} {L : List Sg}
theorem Kp.num (h : Kp w w') : KpN w w' := fun b c T hb => ⟨(h b c T hb).2.1, (h b c T hb).2.2⟩
theorem KpN.refl (w : World) : KpN w w := (Kp.refl w).num
theorem KpN.below (h : Below w.heap.size w w') : KpN w w' := (same_below h).kp.num
theorem KpN.trans (h : KpN w w') (k : KpN w' w'') : KpN w w'' := by
  intro b c T hb
  refine ⟨fun e => ?_, fun e => ?_⟩
  · obtain ⟨c1, e1, e3⟩ := (h b c T hb).1 e
    obtain ⟨c2, d1, d3⟩ := (k b c1 T e1).1 e
    exact ⟨c2, d1, fun i x => d3 i (e3 i x)⟩
  · obtain ⟨c1, e1, e3⟩ := (h b c T hb).2 e
    obtain ⟨c2, d1, d3⟩ := (k b c1 T e1).2 e
    exact ⟨c2, d1, fun i x => d3 i (e3 i x)⟩
theorem KpN.of_same (h : ∀ (b : Nat) (c : Array Value) (T : TypeId), w.heap[b]? = some (Obj.cells c T (0, 0)) → (T = 30 ∨ T = 5) → w'.heap[b]? = w.heap[b]?) : KpN w w' := by
  intro b c T hb
  exact ⟨fun e => ⟨c, (h b c T hb (Or.inl e)).trans hb, fun _ => id⟩, fun e => ⟨c, (h b c T hb (Or.inr e)).trans hb, fun _ => id⟩⟩
theorem NumSl.keepWN (h : NumSl w 30 .u64 C 18446744073709551616 n v) (hs : KpN w w') : NumSl w' 30 .u64 C 18446744073709551616 n v := by
  obtain ⟨a, c, h1, h2, h3, h0, h4⟩ := h
  refine ⟨a, c, h1, h2, h3, h0, h4.imp id ?_⟩
  rintro ⟨b, h5, k0, cur, k1, k3⟩
  obtain ⟨c', e1, e3⟩ := (hs b cur _ k1).1 rfl
  exact ⟨b, h5, k0, c', e1, fun i hi => e3 i (k3 i hi)⟩
theorem NumSl.keepBN (h : NumSl w 5 .u8 C 256 n v) (hs : KpN w w') : NumSl w' 5 .u8 C 256 n v := by
  obtain ⟨a, c, h1, h2, h3, h0, h4⟩ := h
  refine ⟨a, c, h1, h2, h3, h0, h4.imp id ?_⟩
  rintro ⟨b, h5, k0, cur, k1, k3⟩
  obtain ⟨c', e1, e3⟩ := (hs b cur _ k1).2 rfl
  exact ⟨b, h5, k0, c', e1, fun i hi => e3 i (k3 i hi)⟩
theorem ObOK.keepN {o : Ob} {wv bv : Value} (h : ObOK w C o wv bv) (hs : KpN w w') : ObOK w' C o wv bv :=
  ⟨h.kind, h.cls, h.size, h.words.keepWN hs, h.bytes.keepBN hs⟩
theorem TownL.keep (h : TownL C w la ln lc L) (hs : Kp w w') : TownL C w' la ln lc L := by
  obtain ⟨os, h1, h2⟩ := h
  exact ⟨os, h1, h2.imp id fun h => ⟨h.1, h.2.keep hs⟩⟩
/-- an object's block grows -/
theorem KpN.grownO {B n : Nat} {v : Value} {xs : List Value} (h : w.ownsRow B 65 8 v n xs) (hg : w.grownBy w' v.ownBlock) : KpN w w' := by
  refine KpN.of_same fun b c T hb hT => hg.block b (Array.getElem?_eq_some_iff.1 hb).1 ?_
  intro hh
  obtain ⟨-, ⟨rfl, -⟩ | ⟨g, cap, cur, rfl, -, hgg, -⟩⟩ := h
  · simp [Value.ownBlock] at hh
  · simp [Value.ownBlock] at hh
    subst hh
    rw [hgg] at hb
    simp only [Option.some.injEq, Obj.cells.injEq] at hb
    obtain ⟨-, rfl, -⟩ := hb
    rcases hT with h | h <;> exact absurd h (by decide)
/-- a map turns -/
theorem kp_map {b : Nat} {es : Array MapEntry} {cl : Nat} (h : w.heap[b]? = some (.map es cl)) (hg : w.grownBy w' (some b)) : Kp w w' :=
  SameT.kp fun q c T hq _ => hg.block q (Array.getElem?_eq_some_iff.1 hq).1 fun e => by
    simp only [Option.some.injEq] at e
    subst e
    rw [h] at hq
    simp at hq
end
/-- what a step leaves: all but the blocks X and blocks of objects -/
def Fr (X : Nat → Prop) (w w' : World) : Prop := ∀ (q : Nat) (o : Obj), w.heap[q]? = some o → ¬ X q → (∀ c, o ≠ Obj.cells c 65 (0, 0)) → w'.heap[q]? = some o
section
variable {X Y : Nat → Prop} {w w' w'' : World}
theorem Fr.refl (X : Nat → Prop) (w : World) : Fr X w w := fun _ _ h _ _ => h
theorem Fr.trans (h : Fr X w w') (k : Fr X w' w'') : Fr X w w'' := fun q o hq hx ho => k q o (h q o hq hx ho) hx ho
theorem Fr.mono (h : Fr X w w') (hxy : ∀ q, X q → Y q) : Fr Y w w' := fun q o hq hx ho => h q o hq (fun hh => hx (hxy q hh)) ho
theorem Fr.below (h : Below w.heap.size w w') : Fr X w w' := fun q o hq _ _ => (h.block q (Array.getElem?_eq_some_iff.1 hq).1).trans hq
theorem Fr.grown {row : Option Nat} (h : w.grownBy w' row) (hr : ∀ q, row = some q → X q) : Fr X w w' := fun q o hq hx _ =>
  (h.block q (Array.getElem?_eq_some_iff.1 hq).1 (fun e => hx (hr q e.symm))).trans hq
theorem Fr.grownO {B n : Nat} {v : Value} {xs : List Value} (h : w.ownsRow B 65 8 v n xs) (hg : w.grownBy w' v.ownBlock) : Fr X w w' := fun q o hq _ ho => by
  refine (hg.block q (Array.getElem?_eq_some_iff.1 hq).1 ?_).trans hq
  intro hh
  obtain ⟨-, ⟨rfl, -⟩ | ⟨g, cap, cur, rfl, -, hgg, -⟩⟩ := h
  · simp [Value.ownBlock] at hh
  · simp [Value.ownBlock] at hh
    subst hh
    rw [hgg] at hq
    simp only [Option.some.injEq] at hq
    exact ho _ hq.symm
theorem Fr.set {p j : Nat} {u : Value} (h : X p) : Fr X w (w.setCell ⟨p, j, none⟩ u) := fun q o hq hx _ =>
  (Below.heap_setCell _ _ _ _ (fun e => by have e : q = p := e; subst e; exact hx h)).trans hq
theorem Fr.setO {p j : Nat} {u : Value} {c : Array Value} (h : w.heap[p]? = some (Obj.cells c 65 (0, 0))) : Fr X w (w.setCell ⟨p, j, none⟩ u) := fun q o hq _ ho =>
  (Below.heap_setCell _ _ _ _ (fun e => by
    have e : q = p := e
    subst e
    rw [h] at hq
    simp only [Option.some.injEq] at hq
    exact ho _ hq.symm)).trans hq
theorem Fr.cell {q : Nat} {c : Array Value} {T : TypeId} {fr : Nat × Nat} (h : Fr X w w') (hq : w.heap[q]? = some (Obj.cells c T fr)) (hx : ¬ X q) (hT : T ≠ 65) : w'.heap[q]? = some (Obj.cells c T fr) :=
  h q _ hq hx (fun c' e => by simp only [Obj.cells.injEq] at e; exact hT e.2.1)
theorem Fr.map {q cl : Nat} {es : Array MapEntry} (h : Fr X w w') (hq : w.heap[q]? = some (Obj.map es cl)) (hx : ¬ X q) : w'.heap[q]? = some (Obj.map es cl) :=
  h q _ hq hx (fun c' e => by simp at e)
end
/-- a pointer to one of them; to one of a kind and size -/
def IsP (L : List Sg) (v : Nat) : Prop := ∃ s ∈ L, v = 2 * s.1
def IsK (L : List Sg) (k : Int) (n v : Nat) : Prop := ∃ a, (a, k, n) ∈ L ∧ v = 2 * a
theorem IsK.p {L : List Sg} {k : Int} {n v : Nat} (h : IsK L k n v) : IsP L v := by obtain ⟨a, h1, h2⟩ := h; exact ⟨_, h1, h2⟩
theorem IsP.mono {L L' : List Sg} {v : Nat} (h : IsP L v) (hs : L ⊆ L') : IsP L' v := by obtain ⟨s, h1, h2⟩ := h; exact ⟨s, hs h1, h2⟩
theorem IsK.mono {L L' : List Sg} {k : Int} {n v : Nat} (h : IsK L k n v) (hs : L ⊆ L') : IsK L' k n v := by obtain ⟨s, h1, h2⟩ := h; exact ⟨s, hs h1, h2⟩
theorem sub_snoc (L : List Sg) (s : Sg) : L ⊆ L ++ [s] := List.subset_append_left _ _
section
variable {w w' : World} {C ln lc : Nat} {la : Option Addr} {L : List Sg}
theorem TownL.len (h : TownL C w la ln lc L) : ln = L.length ∧ ln ≤ lc ∧ lc ≤ maxLen ∧ (la = none → ln = 0 ∧ lc = 0) := by
  obtain ⟨os, rfl, ⟨rfl, rfl, rfl, rfl⟩ | ⟨h0, h1, h2, h3, h4, b, h5, -⟩⟩ := h
  · exact ⟨rfl, by omega, by unfold maxLen; omega, fun _ => ⟨rfl, rfl⟩⟩
  · exact ⟨by rw [List.length_map]; exact h1, h2, h3, fun e => by rw [h5] at e; simp at e⟩
/-- where a pointer leads -/
theorem TownL.at_ {v : Nat} (h : TownL C w la ln lc L) (hv : IsP L v) : v % 2 = 0 ∧ 4 ≤ v ∧ v ≤ 2 * usedS L := by
  obtain ⟨s, hs, rfl⟩ := hv
  obtain ⟨os, rfl, ⟨-, -, -, rfl⟩ | ⟨-, h⟩⟩ := h
  · simp at hs
  · obtain ⟨o, ho, rfl⟩ := List.mem_map.1 hs
    obtain ⟨i, hi⟩ := List.mem_iff_getElem?.1 ho
    have := h.bound hi
    rw [usedS_os]
    show 2 * o.at_ % 2 = 0 ∧ 4 ≤ 2 * o.at_ ∧ 2 * o.at_ ≤ 2 * usedO os
    omega
/-- the row of objects, to append to -/
theorem TownL.owns (h : TownL C w la ln lc L) : ∃ (os : List Ob) (xs : List Value), os.map sgO = L ∧ InRow 2 os ∧ ln = os.length ∧ w.ownsRow C 65 8 (.slice la ln lc) ln xs ∧ xs.length = 8 * os.length ∧
    ∀ i o, os[i]? = some o → ∃ wv bv, ObOK w C o wv bv ∧ ∀ j, j < 8 → xs[8 * i + j]? = (obL o wv bv)[j]? := by
  obtain ⟨os, h0, ⟨rfl, rfl, rfl, rfl⟩ | ⟨-, h1, h2, h3, h4, b, rfl, h6, cur, h7, h8, h9⟩⟩ := h
  · exact ⟨[], [], h0, trivial, rfl, World.ownsRow_nil _ _ _ _, rfl, fun i o ho => by simp at ho⟩
  · refine ⟨os, cur.toList.take (ln * 8), h0, h4, h1, ⟨?_, .inr ⟨b, lc, cur, rfl, h6, h7, h2, h3, by omega, rfl⟩⟩, ?_, fun i o ho => ?_⟩
    · rw [List.length_take, Array.length_toList]; omega
    · rw [List.length_take, Array.length_toList]; omega
    · obtain ⟨wv, bv, k1, k2⟩ := h9 i o ho
      have hi := (List.getElem?_eq_some_iff.1 ho).1
      refine ⟨wv, bv, k1, fun j hj => ?_⟩
      rw [List.getElem?_take, if_pos (by omega), Array.getElem?_toList]
      exact k2 j hj
theorem inRow_snoc : ∀ (os : List Ob) (a : Nat) (o : Ob), InRow a os → o.at_ = a + (os.map fun o => 2 + o.cells).sum → InRow a (os ++ [o])
  | [], a, o, _, h => ⟨by simpa using h, trivial⟩
  | x :: os, a, o, ⟨h1, h2⟩, h => ⟨h1, inRow_snoc os _ o h2 (by simp only [List.map_cons, List.sum_cons] at h; omega)⟩
/-- one more -/
theorem TownL.push {os : List Ob} {xs : List Value} {o : Ob} {wv bv v' : Value} (hin : InRow 2 os) (hln : ln = os.length) (hxl : xs.length = 8 * os.length)
    (hc : ∀ i o, os[i]? = some o → ∃ wv bv, ObOK w' C o wv bv ∧ ∀ j, j < 8 → xs[8 * i + j]? = (obL o wv bv)[j]?)
    (ho : ObOK w' C o wv bv) (hat : o.at_ = usedO os) (hown : w'.ownsRow C 65 8 v' (ln + 1) (xs ++ obL o wv bv)) :
    ∃ b lc', v' = .slice (some ⟨b, 0, none⟩) (ln + 1) lc' ∧ TownL C w' (some ⟨b, 0, none⟩) (ln + 1) lc' (os.map sgO ++ [sgO o]) := by
  obtain ⟨-, ⟨-, h⟩ | ⟨b, cap, cur, rfl, h1, h2, h3, h4, h5, h6⟩⟩ := hown
  · omega
  · refine ⟨b, cap, rfl, os ++ [o], by simp, Or.inr ⟨by omega, by simp; omega, h3, h4, inRow_snoc os 2 o hin (by rw [hat]; unfold usedO; omega), b, rfl, h1, cur, h2, by omega, fun i x hx => ?_⟩⟩
    have hcx : ∀ j, j < 8 * os.length + 8 → cur[j]? = (xs ++ obL o wv bv)[j]? := fun j hj => by
      rw [← h6, List.getElem?_take, if_pos (by omega), Array.getElem?_toList]
    rw [List.getElem?_append] at hx
    split at hx
    · rename_i hi
      obtain ⟨wv', bv', k1, k2⟩ := hc i x hx
      refine ⟨wv', bv', k1, fun j hj => ?_⟩
      rw [hcx _ (by omega), List.getElem?_append_left (by omega)]
      exact k2 j hj
    · rename_i hi
      have hi2 := (List.getElem?_eq_some_iff.1 hx).1
      simp at hi2
      obtain rfl : i = os.length := by omega
      simp at hx
      subst hx
      refine ⟨wv, bv, ho, fun j hj => ?_⟩
      rw [hcx _ (by omega), List.getElem?_append_right (by omega)]
      congr 1
      omega
end
/-- the town, in block P; its symbols in block sb -/
structure Twn (C P sb : Nat) (w : World) (la : Option Addr) (ln lc root : Nat) (L : List Sg) : Prop where
  hP : C ≤ P
  blk : w.heap[P]? = some (.cells #[.int .i64 3000, .slice la ln lc, .int .u32 0, .map (some sb), .int .u64 (root : Int)] 52 (0, 0))
  lst : TownL C w la ln lc L
  fit : usedS L ≤ 3000
section
variable {w w' : World} {C P sb ln lc root : Nat} {la : Option Addr} {L : List Sg}
theorem Twn.keep (h : Twn C P sb w la ln lc root L) (hk : Kp w w') (hp : w'.heap[P]? = w.heap[P]?) : Twn C P sb w' la ln lc root L :=
  ⟨h.hP, hp.trans h.blk, h.lst.keep hk, h.fit⟩
theorem Twn.lt (h : Twn C P sb w la ln lc root L) : P < w.heap.size := (Array.getElem?_eq_some_iff.1 h.blk).1
theorem Twn.later (h : Twn C P sb w la ln lc root L) (hb : Below w.heap.size w w') : Twn C P sb w' la ln lc root L := h.keep (same_below hb).kp (hb.block P h.lt)
theorem Twn.map {b cl : Nat} {es : Array MapEntry} (h : Twn C P sb w la ln lc root L) (hm : w.heap[b]? = some (.map es cl)) (hg : w.grownBy w' (some b)) : Twn C P sb w' la ln lc root L := by
  refine h.keep (kp_map hm hg) (hg.block P h.lt fun e => ?_)
  simp only [Option.some.injEq] at e
  subst e
  have := h.blk
  rw [hm] at this
  simp at this
/-- an object, by its place in the list -/
theorem TownL.get {i : Nat} {s : Sg} (h : TownL C w la ln lc L) (hs : L[i]? = some s) : ∃ (os : List Ob) (o : Ob) (b : Nat), os.map sgO = L ∧ os[i]? = some o ∧ sgO o = s ∧ la = some ⟨b, 0, none⟩ ∧ C ≤ b ∧ TownAt C w la ln lc os ∧ 0 < ln := by
  obtain ⟨os, rfl, ⟨-, -, -, rfl⟩ | ⟨h0, h⟩⟩ := h
  · simp at hs
  · rw [List.getElem?_map] at hs
    obtain ⟨o, ho, rfl⟩ := Option.map_eq_some_iff.1 hs
    obtain ⟨b, hb, hC⟩ : ∃ b, la = some ⟨b, 0, none⟩ ∧ C ≤ b := by obtain ⟨-, -, -, -, b, h5, h6, -⟩ := h; exact ⟨b, h5, h6⟩
    exact ⟨os, o, b, rfl, ho, rfl, hb, hC, h, h0⟩
theorem map_sg_set {os : List Ob} {i : Nat} {o o' : Ob} (ho : os[i]? = some o) (h : sgO o' = sgO o) : (os.set i o').map sgO = os.map sgO := by
  apply List.ext_getElem?
  intro k
  rw [List.getElem?_map, List.getElem?_map, List.getElem?_set]
  by_cases hk : i = k
  · subst hk
    rw [if_pos rfl, if_pos (List.getElem?_eq_some_iff.1 ho).1, ho]
    simp [h]
  · rw [if_neg hk]
/-- the list's block is one of objects -/
theorem TownL.blk {i b : Nat} {s : Sg} (h : TownL C w la ln lc L) (hs : L[i]? = some s) (hla : la = some ⟨b, 0, none⟩) : C ≤ b ∧ ∃ c, w.heap[b]? = some (Obj.cells c 65 (0, 0)) := by
  obtain ⟨os, o, b', h1, h2, h3, h4, h5, h6, h7⟩ := h.get hs
  obtain ⟨-, -, -, -, b2, k5, -, cur, k7, -⟩ := h6
  rw [h4] at k5 hla
  simp at k5 hla
  subst k5 hla
  exact ⟨h5, cur, k7⟩
theorem Twn.setO {i b j : Nat} {s : Sg} {u : Value} (h : Twn C P sb w la ln lc root L) (hs : L[i]? = some s) (hla : la = some ⟨b, 0, none⟩) (hl : TownL C (w.setCell ⟨b, 8 * i + j, none⟩ u) la ln lc L) :
    Twn C P sb (w.setCell ⟨b, 8 * i + j, none⟩ u) la ln lc root L := by
  obtain ⟨hC, c, hc⟩ := h.lst.blk hs hla
  refine ⟨h.hP, (Below.heap_setCell _ _ _ _ ?_).trans h.blk, hl, h.fit⟩
  intro e
  have e : P = b := e
  subst e
  have := h.blk
  rw [hc] at this
  simp at this
/-- its class is told -/
theorem Twn.cls {i b c : Nat} {s : Sg} (h : Twn C P sb w la ln lc root L) (hs : L[i]? = some s) (hla : la = some ⟨b, 0, none⟩) (hc : c % 2 = 0 ∧ c ≠ 0 ∧ c < 18446744073709551616) :
    Twn C P sb (w.setCell ⟨b, 8 * i + 1, none⟩ (.int .u64 (c : Int))) la ln lc root L := by
  refine h.setO hs hla ?_
  obtain ⟨os, o, b', rfl, h2, h3, h4, h5, h6, h7⟩ := h.lst.get hs
  refine ⟨os.set i { o with cls := c }, map_sg_set h2 rfl, Or.inr ⟨h7, h6.put h2 hla (by omega) rfl rfl fun wv bv hk => ⟨wv, bv, ⟨hk.kind, hc, hk.size, hk.words, hk.bytes⟩, rfl⟩⟩⟩
/-- its words are told -/
theorem Twn.words {i b a n : Nat} {k : Int} {v : Value} (h : Twn C P sb w la ln lc root L) (hs : L[i]? = some (a, k, n)) (hla : la = some ⟨b, 0, none⟩) (hk2 : k ≠ 2) (hv : NumSl w 30 .u64 C 18446744073709551616 n v) :
    Twn C P sb (w.setCell ⟨b, 8 * i + 6, none⟩ v) la ln lc root L := by
  refine h.setO hs hla ?_
  obtain ⟨os, o, b', rfl, h2, h3, h4, h5, h6, h7⟩ := h.lst.get hs
  have e1 : o.kind = k := congrArg (·.2.1) h3
  have e2 : o.size = n := congrArg (·.2.2) h3
  refine ⟨os.set i o, map_sg_set h2 rfl, Or.inr ⟨h7, h6.put h2 hla (by omega) rfl rfl fun wv bv hk => ⟨v, bv, ⟨hk.kind, hk.cls, hk.size, ?_, hk.bytes⟩, rfl⟩⟩⟩
  rw [if_neg (by rw [e1]; exact hk2), e2]
  exact hv
end
end Go.Proofs.YtibopjjicfiimaaGreatDoor
namespace Go.Proofs.YtibopjjicfiimaaGreatDoor
open Go.RowKit
set_option linter.unusedVariables false
theorem cells_ob {w : World} {C : Nat} {o : Ob} {wv bv : Value} (h : ObOK w C o wv bv) : cellsZ (o.cls : Int) o.kind (o.size : Int) 0 = (o.cells : Int) := by
  have hck := head_ck (head_p h)
  unfold cellsZ Ob.cells
  rw [if_pos hck]
  split <;> omega
theorem usedO_snoc (os : List Ob) (o : Ob) : usedO (os ++ [o]) = usedO os + (2 + o.cells) := by
  unfold usedO
  rw [List.map_append, List.sum_append]
  simp only [List.map_cons, List.map_nil, List.sum_cons, List.sum_nil]
  omega
theorem inRow_last : ∀ (os : List Ob) (a : Nat) (o : Ob), InRow a (os ++ [o]) → o.at_ = a + (os.map fun o => 2 + o.cells).sum
  | [], a, o, h => by simpa using h.1
  | x :: os, a, o, ⟨h1, h2⟩ => by
    have := inRow_last os _ o h2
    simp only [List.map_cons, List.sum_cons]
    omega
/-- the last one ends where cells are free -/
theorem used_last {os : List Ob} {n : Nat} {o : Ob} (h : InRow 2 os) (hn : os.length = n + 1) (ho : os[n]? = some o) : usedO os = o.at_ + 2 + o.cells := by
  have e : os = os.take n ++ [o] := by
    have h2 := (List.getElem?_eq_some_iff.1 ho).2
    have h3 : os.take (n + 1) = os.take n ++ [os[n]] := List.take_succ_eq_append_getElem (by omega)
    rw [h2, List.take_of_length_le (by omega)] at h3
    exact h3
  rw [e] at h ⊢
  have := inRow_last _ _ _ h
  rw [usedO_snoc]
  unfold usedO
  omega
set_option maxRecDepth 100000 in
theorem tused_any (C : Nat) (la : Option Addr) (ln lc : Nat) (L : List Sg) (w : World) (h : TownL C w la ln lc L) (hu : usedS L ≤ 3000) :
    Calls Tryz.prog 47 #[.agg #[.int .i64 3000, .slice la ln lc, .int .u32 0]] w fun e w' => e = .returned (.int .i64 (usedS L : Int)) ∧ Below w.heap.size w w' := by
  obtain ⟨os, rfl, ⟨rfl, rfl, rfl, rfl⟩ | ⟨h0, ht⟩⟩ := h
  · rw [usedS_os, show usedO [] = 2 from rfl]
    go_enter Tryz.func47, Tryz.ntmps47
    go_wp2_with fail
    go_ret
    refine ⟨rfl, ?_⟩
    repeat (first | with_reducible exact Below.refl _ _ | ((with_reducible refine Below.setCell ?_ ?_ _); rotate_left; focus (first | (simp; done) | (simp; omega) | omega)) | ((with_reducible refine Below.alloc ?_ ?_ _); rotate_left; focus (first | (simp; done) | (simp; omega) | omega)) | (with_reducible refine Below.drew ?_))
  · rw [usedS_os] at hu ⊢
    have h2 := two_each os
    have hlo := ht.1
    have hcc : lc ≤ maxLen := ht.2.2.1
    have hlc : ln ≤ lc := ht.2.1
    unfold maxLen at hcc
    obtain ⟨n, rfl⟩ : ∃ n, ln = n + 1 := ⟨ln - 1, by omega⟩
    obtain ⟨o, hlast⟩ : ∃ o, os[n]? = some o := ⟨_, List.getElem?_eq_getElem (by omega)⟩
    have hul := used_last ht.2.2.2.1 hlo.symm hlast
    obtain ⟨b, wv, bv, rfl, hbl, -, hob, hcl⟩ := ht.get hlast
    have hce := cells_ob hob
    have hok := hob.cls
    have c0 := hcl 0 (by omega)
    have c1 := hcl 1 (by omega)
    have c2 := hcl 2 (by omega)
    have c3 := hcl 3 (by omega)
    have c4 := hcl 4 (by omega)
    have c5 := hcl 5 (by omega)
    have c6 := hcl 6 (by omega)
    have c7 := hcl 7 (by omega)
    rw [Nat.mul_comm 8 n] at c0 c1 c2 c3 c4 c5 c6 c7
    simp [obL] at c0 c1 c2 c3 c4 c5 c6 c7
    obtain ⟨wa, wc, rfl, -⟩ := hob.words
    obtain ⟨ba, bc, rfl, -⟩ := hob.bytes
    have RC := Lib.hid (fun W => rcells_any (o.cls : Int) o.kind (o.size : Int) 0 o.mark (by omega) (by omega) W)
    rw [hce] at RC
    rw [hul]
    have hcb : o.at_ + 2 + o.cells ≤ 3000 := by omega
    generalize o.cells = cr at *
    obtain ⟨at_, cls, kind, size, mark⟩ := o
    dsimp only at *
    generalize (if kind = 2 then 0 else size) = nw at *
    generalize (if kind = 2 then size else 0) = nb at *
    have hn1 : n + 1 ≤ 1500 := by omega
    clear hul hob hcl hlast h2 hlo ht hce h0 hu
    go_enter Tryz.func47, Tryz.ntmps47
    go_wp2_with fail
    all_goals (try (exfalso; go_light; omega))
    obtain ⟨w1, hw1⟩ : ∃ w1, w1 = w.alloc (.cells #[.int .i64 3000, .slice (some ⟨b, 0, none⟩) (n + 1) lc, .int .u32 0] 29) := ⟨_, rfl⟩
    have hb1 : Below w.heap.size w w1 := by rw [hw1]; exact (Below.refl _ w).alloc (Nat.le_refl _) _
    have hs1 : w1.heap.size = w.heap.size + 1 := by rw [hw1]; simp
    rw [← hw1, ← hs1]
    obtain ⟨w2, hw2⟩ : ∃ w2, w2 = w1.alloc (.cells #[.int .i64 (at_ : Int), .int .u64 (cls : Int), .int .i64 kind, .int .i64 (size : Int), .int .u32 0, .bool mark, .slice wa nw wc, .slice ba nb bc] 65) := ⟨_, rfl⟩
    have hx := heap_alloc_new w1 (.cells #[.int .i64 (at_ : Int), .int .u64 (cls : Int), .int .i64 kind, .int .i64 (size : Int), .int .u32 0, .bool mark, .slice wa nw wc, .slice ba nb bc] 65)
    rw [← hw2] at hx ⊢
    have hb2 : Below w.heap.size w w2 := by rw [hw2]; exact hb1.alloc hb1.size _
    have hlt : w1.heap.size < w2.heap.size := (Array.getElem?_eq_some_iff.1 hx).1
    have x0 := cellO hx 0
    have x1 := cellO hx 1
    have x2 := cellO hx 2
    have x3 := cellO hx 3
    have x4 := cellO hx 4
    have x5 := cellO hx 5
    simp at x0 x1 x2 x3 x4 x5
    have HB2 := Lib.hid hb2
    clear hw1 hw2 hx hb1 hb2 hs1 c0 c1 c2 c3 c4 c5 c6 c7
    generalize w1.heap.size = z at *
    (refine wp_region_later (by kernel_rfl) (by kernel_rfl) ?_; (repeat (go_big_quiet_step (((go_at_call 87; with_reducible exact calls_later RC.out))))); refine wpQuiet_nil ?_; intro w3 hw4; have hg := later_elim hw4; clear hw4)
    have HG := Lib.hid (HB2.out.trans (hg.mono HB2.out.size))
    clear hg
    go_wp2_with fail
    go_ret
    exact ⟨ret_int (by omega), HG.out⟩
/-- places rise -/
theorem inRow_inj : ∀ (os : List Ob) (a i j : Nat) (o o' : Ob), InRow a os → i < j → os[i]? = some o → os[j]? = some o' → o.at_ < o'.at_
  | [], _, _, _, _, _, _, _, h, _ => by simp at h
  | x :: os, a, 0, j + 1, o, o', ⟨h1, h2⟩, _, hi, hj => by
    simp at hi
    subst hi
    have := (inRow_lt os _ j o' h2 (by simpa using hj)).1
    omega
  | x :: os, a, i + 1, j + 1, o, o', ⟨h1, h2⟩, hij, hi, hj => inRow_inj os _ i j o o' h2 (by omega) (by simpa using hi) (by simpa using hj)
set_option maxRecDepth 100000 in
theorem tfind_any (C : Nat) (la : Option Addr) (ln lc k : Nat) (L : List Sg) (s : Sg) (w : World) (h : TownL C w la ln lc L) (hu : usedS L ≤ 3000) (x : Nat) (hk : L[k]? = some s) (hx : x = 2 * s.1) :
    Calls Tryz.prog 49 #[.agg #[.int .i64 3000, .slice la ln lc, .int .u32 0], .int .u64 (x : Int)] w fun e w' => e = .returned (.int .i64 (k : Int)) ∧ Below w.heap.size w w' := by
  obtain ⟨os, ok, b, rfl, hok, rfl, rfl, hC, ht, h0⟩ := h.get hk
  rw [usedS_os] at hu
  have h2 := two_each os
  have hlo := ht.1
  have hcc : lc ≤ maxLen := ht.2.2.1
  have hlc : ln ≤ lc := ht.2.1
  unfold maxLen at hcc
  have hkl : k < os.length := (List.getElem?_eq_some_iff.1 hok).1
  have hxx : (sgO ok).1 = ok.at_ := rfl
  rw [hxx] at hx
  clear hxx
  have H3 := Lib.hid (show ∀ W, Below w.heap.size w W → ∀ i o, os[i]? = some o → W.cell? ⟨b, i * 8, none⟩ = some (.int .i64 (o.at_ : Int)) ∧ o.at_ ≤ 3000 from fun W hW i o ho => by
    obtain ⟨b', wv, bv, ha, hbl, -, hob, hcl⟩ := ht.get ho
    simp only [Option.some.injEq, Addr.mk.injEq, and_true] at ha
    subst ha
    have := hcl 0 (by omega)
    rw [Nat.mul_comm 8 i] at this
    have hbd := (ht.bound ho).2
    exact ⟨(hW.cell (p := ⟨b, i * 8, none⟩) hbl).trans this, by omega⟩)
  have HLT := Lib.hid (show ∀ j o, j < k → os[j]? = some o → o.at_ < ok.at_ from fun j o hj ho => inRow_inj os 2 j k o ok ht.2.2.2.1 hj ho hok)
  have HOK := Lib.hid hok
  have hl15 : ln ≤ 1500 := by omega
  have hkn : k < ln := by omega
  have HLO := Lib.hid hlo
  have HXX := Lib.hid hx
  clear h ht hok hk h2 hlo hkl hx
  go_enter Tryz.func49, Tryz.ntmps49
  go_wp2_with fail
  obtain ⟨w1, hw1⟩ : ∃ w1, w1 = w.alloc (.cells #[.int .i64 3000, .slice (some ⟨b, 0, none⟩) ln lc, .int .u32 0] 29) := ⟨_, rfl⟩
  have hx := heap_alloc_new w (.cells #[.int .i64 3000, .slice (some ⟨b, 0, none⟩) ln lc, .int .u32 0] 29)
  rw [← hw1] at hx ⊢
  have HB1 := Lib.hid (show Below w.heap.size w w1 by rw [hw1]; exact (Below.refl _ w).alloc (Nat.le_refl _) _)
  have HC := Lib.hid hx
  have hz1 : w.heap.size < w1.heap.size := (Array.getElem?_eq_some_iff.1 hx).1
  clear hw1 hx
  go_loopg [5] k (fun gg s5 wr => ∃ i : Nat, gg = k - i ∧ i ≤ k ∧ s5 = .int .i64 (i : Int) ∧ Below w1.heap.size w1 wr)
  case atStart => exact ⟨0, rfl, by omega, rfl, Below.refl _ _⟩
  case round =>
    obtain ⟨i, hgi, hi, rfl, hg⟩ := hrel
    have HGI := Lib.hid hgi; have HG := Lib.hid hg
    have hx := (hg.block w.heap.size hz1).trans HC.out
    have z1 := cellO hx 1
    simp at z1
    have hbw := HB1.out.trans (hg.mono HB1.out.size)
    clear hgi hg hx
    by_cases hik : i = k
    · subst hik
      obtain ⟨hc, ha⟩ := H3.out wr hbw i ok HOK.out
      have HBW := Lib.hid hbw
      clear hbw
      generalize ok.at_ = at_ at *
      have he : (at_ : Int) * 2 = (x : Int) := by have := HXX.out; omega
      go_wp2_with fail
      all_goals (try (exfalso; go_light; omega))
      go_ret
      exact ⟨rfl, HBW.out⟩
    · have hil : i < os.length := by have := HLO.out; omega
      obtain ⟨hc, ha⟩ := H3.out wr hbw i os[i] (List.getElem?_eq_getElem hil)
      obtain ⟨hc', ha'⟩ := H3.out wr hbw k ok HOK.out
      have hne := HLT.out i os[i] (by omega) (List.getElem?_eq_getElem hil)
      have HBW := Lib.hid hbw
      clear hbw hc'
      generalize os[i].at_ = at_ at *
      generalize ok.at_ = at2 at *
      have he : ¬ (at_ : Int) * 2 = (x : Int) := by have := HXX.out; omega
      go_wp2_with fail
      all_goals (try (exfalso; go_light; omega))
      go_roundg (k - (i + 1))
      case measure => rw [HGI.out]; omega
      case rel => exact ⟨i + 1, rfl, by omega, by go_num, HG.out⟩
set_option maxRecDepth 100000 in
theorem tat_any (C P sb : Nat) (la : Option Addr) (ln lc root k : Nat) (L : List Sg) (s : Sg) (w : World) (h : Twn C P sb w la ln lc root L) (x : Nat) (hk : L[k]? = some s) (hx : x = 2 * s.1) :
    Calls Tryz.prog 17 #[.pointer (some ⟨P, 0, none⟩), .int .u64 (x : Int)] w fun e w' => ∃ b, la = some ⟨b, 0, none⟩ ∧ e = .returned (.pointer (some ⟨b, k * 8, none⟩)) ∧ Below w.heap.size w w' := by
  obtain ⟨os, ok, b, -, -, -, rfl, -, -, -⟩ := h.lst.get hk
  obtain ⟨hlen, hlc, hcc, -⟩ := h.lst.len
  have hkl : k < L.length := (List.getElem?_eq_some_iff.1 hk).1
  have y0 := cellO h.blk 0
  have y1 := cellO h.blk 1
  have y2 := cellO h.blk 2
  simp at y0 y1 y2
  have hPl := h.lt
  have hkn : (k : Int) < ln := by omega
  unfold maxLen at hcc
  clear hlen
  have FN := Lib.hid (fun W (hW : Below w.heap.size w W) => tfind_any C (some ⟨b, 0, none⟩) ln lc k L s W (h.lst.keep (same_below hW).kp) h.fit x hk hx)
  clear h hk hx
  go_enter Tryz.func17, Tryz.ntmps17
  go_upto_region 1 with fail
  (refine wp_region_later (by kernel_rfl) (by kernel_rfl) ?_; (repeat (go_big_quiet_step (((go_at_call 49; with_reducible exact calls_later_if FN.out))))); refine wpQuiet_nil ?_; intro w3 hw4; have hg := later_elim hw4; clear hw4)
  have HG := Lib.hid hg
  clear hg
  go_wp2_with fail
  go_ret
  exact ⟨b, rfl, rfl, HG.out⟩
end Go.Proofs.YtibopjjicfiimaaGreatDoor
