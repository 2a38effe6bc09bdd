/- Going through objects level by level: what a level holds stays while more is met behind it. Going through objects of which none is loose: led to a word, all from an object, level by level. Steps, of any memory of which nothing that is led to is loose. Steps are the same behind a collection; how many cells stay; how many objects there are. FoundlingReached: behind a collection all that there is can be reached, in as many steps as ever, and it is as much as was told ahead: for every graph and roots. -/
import Derived.Test.YtffbhocgjpdjpaaDoorOrdR
import Derived.Deep.Upon
import Derived.Deep.AppendSrc
import Derived.Test.YtffbhocgjpdjpaaDoorHeapCl
import Derived.Test.YtffbhocgjpdjpaaDoorLayOpen
import Derived.Test.YtffbhocgjpdjpaaDoorTie
import Derived.Test.YtffbhocgjpdjpaaDoorCards
import Derived.ChangeOld
namespace Go.Proofs.YtffbhocgjpdjpaaDoor
open Go.RowKit
set_option linter.unusedVariables false
/-- memory as it is read: heads and words of objects -/
structure HeapRd (w0 : World) (h N : Nat) (S : Nat → Bool) (M : Nat → Nat) : Prop where
  big : N ≤ 16777216
  small : ∀ i, M i < 18446744073709551616
  head : ∀ W, Below w0.heap.size w0 W → ∀ (a : Nat), 1 ≤ a → a + 2 ≤ N → S a = true → UnOK (M a) (M (a + 1)) → Calls Tryd.prog 27 #[.pointer (some ⟨h, 0, none⟩), .int .u64 (a * 2 : Int)] W fun e w' => e = .returned (.tuple #[.agg #[.int .u64 (M a : Int), .int .i64 (hK (M (a + 1))), .int .i64 (hS (M (a + 1))), .int .u32 (hH (M (a + 1))), .bool (hM (M (a + 1)))], .int .i64 0]) ∧ Below W.heap.size W w'
  get : ∀ W, Below w0.heap.size w0 W → ∀ (a i : Nat), 1 ≤ a → a + 2 + i < N → S a = true → UnOK (M a) (M (a + 1)) → hK (M (a + 1)) ≠ 2 → (i : Int) < hS (M (a + 1)) → Calls Tryd.prog 28 #[.pointer (some ⟨h, 0, none⟩), .int .u64 (a * 2 : Int), .int .i64 (i : Int)] W fun e w' => e = .returned (.tuple #[.int .u64 (M (a + 2 + i) : Int), .int .i64 0]) ∧ Below W.heap.size W w'
  has : ∀ W, Below w0.heap.size w0 W → ∀ (a : Nat), 1 ≤ a → a < 16777216 → Calls Tryd.prog 52 #[.pointer (some ⟨h, 0, none⟩), .int .u64 (a * 2 : Int)] W fun e w' => e = .returned (.bool (S a)) ∧ Below W.heap.size W w'
  cells : ∀ W, Below w0.heap.size w0 W → Calls Tryd.prog 15 #[.pointer (some ⟨h, 0, none⟩)] W fun e w' => e = .returned (.int .i64 (N : Int)) ∧ w' = W
theorem HeapAt.rd {w : World} {B h N free : Nat} {S : Nat → Bool} {M : Nat → Nat} (H : HeapAt w B h N free S M) : HeapRd w h N S M :=
  ⟨by obtain ⟨g, s, -, -, h3, -⟩ := H; exact h3, by obtain ⟨g, s, -, -, -, -, -, -, -, h7, -⟩ := H; exact h7,
   fun W hW a h1 h2 h3 h4 => hHead_yes B h N free a S M W (H.later hW) h1 h2 h3 h4, fun W hW a i h1 h2 h3 h4 h5 h6 => hget_yes B h N free a i S M W (H.later hW) h1 h2 h3 h4 h5 h6,
   fun W hW a h1 h2 => hhas_yes B h N free a S M W (H.later hW) h1 h2, fun W hW => hcells_any B h N free S M W (H.later hW)⟩
theorem HeapRd.later {w w' : World} {h N : Nat} {S : Nat → Bool} {M : Nat → Nat} (H : HeapRd w h N S M) (hb : Below w.heap.size w w') : HeapRd w' h N S M :=
  ⟨H.big, H.small, fun W hW => H.head W (hb.trans (hW.mono hb.size)), fun W hW => H.get W (hb.trans (hW.mono hb.size)), fun W hW => H.has W (hb.trans (hW.mono hb.size)), fun W hW => H.cells W (hb.trans (hW.mono hb.size))⟩
/-- where a row lies that was appended to: where it lay, or anew and the old one is as it was -/
def PushCase (w w' : World) (v v' : Value) (n m : Nat) : Prop :=
  (∃ g cap, v = .slice (some ⟨g, 0, none⟩) n cap ∧ v' = .slice (some ⟨g, 0, none⟩) (n + m) cap) ∨ ((∀ q, q < w.heap.size → w'.heap[q]? = w.heap[q]?) ∧ ∃ g cap, v' = .slice (some ⟨g, 0, none⟩) (n + m) cap ∧ w.heap.size ≤ g)
/-- append of one word to a row of the call's own: it lies where it lay, or the old row is as it was -/
theorem run_append_keep {P : Program} (w : World) (base : Nat) (t ty e : TypeId) (i : TypeInfo) (z : Value) (bytes : Nat) (ht : P.underlying t = some (.slice e)) (hi : P.info? e = some i) (hz : i.zero = some z)
    (hsize : i.size = 1) (hby : i.bytes = bytes) (hzs : z.cells.size = 1) (v : Value) (n : Nat) (xs : List Value) (hown : w.ownsRow base e 1 v n xs) (a : Addr) (m c : Nat) (hm : 0 < m) (news : List Value) (hl : news.length = m) (hnews : ∀ j u, news[j]? = some u → w.cell? (a.add j) = some u) (h1 : ∀ u ∈ news, u.oneCell' = true)
    (h63 : n + m ≤ maxLen) (hbytes : (n + m) * bytes ≤ 140737488355328) (hbase : base ≤ w.heap.size) :
    ∃ v' w', (Builtin.append_ #[t, t] ty #[v, .slice (some a) m c]).run P w = .ok v' w' ∧ w'.ownsRow base e 1 v' (n + m) (xs ++ news) ∧ w.grownBy w' v.ownBlock ∧
      PushCase w w' v v' n m := by
  obtain ⟨v', w', hr, ho, hg, -⟩ := run_append_own (P := P) (w := w) base t ty e i z 1 bytes ht hi hz hsize hby hzs (by decide) v n xs hown a m c news (by omega) hnews h1 h63 hbytes hbase
  refine ⟨v', w', hr, ho, hg, ?_⟩
  have src : Src P 1 t (.slice (some a) m c) m news w := Src.ofSlice w ht a m c news (by omega) hnews h1
  rcases hown.2 with ⟨rfl, rfl⟩ | ⟨g, cap, cur, rfl, hbg, hgc, hnc, hcm, hcs, htake⟩
  · have hx : xs = [] := List.eq_nil_of_length_eq_zero (by simpa using hown.1)
    have hc : Came w 1 none 0 0 0 0 [] := ⟨Nat.le_refl _, fun h => absurd h (Nat.lt_irrefl 0), fun h => absurd h (Nat.lt_irrefl 0), rfl, fun j u h => by simp at h, fun j h => by simp at h⟩
    obtain ⟨v2, w2, hr2, hu⟩ := run_append_upon (P := P) hc t t ty i z bytes ht hi hz hsize hby hzs (Upon.start (e := e) hc) (.slice (some a) m c) m news src (by omega) (by simpa using hbytes)
    rw [hr] at hr2
    injection hr2 with e1 e2
    subst e1 e2
    right
    have hnx : Upon.next 0 0 1 0 0 m = 0 := by unfold Upon.next; rw [if_neg (by omega)]
    rw [hnx] at hu
    refine ⟨fun q hq => hu.kept.block hq (fun p ⟨j, hj, _⟩ => by omega), ?_⟩
    rcases hu.val with ⟨h0, -, -⟩ | ⟨-, g, c', hv, hat⟩
    · omega
    · exact ⟨g, c', by rw [hv]; congr 1; omega, hat.new⟩
  · have hlt := (Array.getElem?_eq_some_iff.1 hgc).1
    have hcell : ∀ j, w.cell? ⟨g, j, none⟩ = cur[j]? := fun j => cellO hgc j
    have hxl : xs.length = n := by have := hown.1; omega
    have hc : Came w 1 (some ⟨g, 0, none⟩) g 0 n cap xs := by
      refine ⟨hnc, fun _ => rfl, fun _ => hlt, by omega, fun j u hj => ?_, fun j hj => ?_⟩
      · have := hown.cells (g := g) rfl j u hj
        rw [Nat.zero_add]
        rw [add_plain] at this
        exact this
      · have hjs : 0 + n * 1 + j < cur.size := by omega
        refine ⟨by rw [hcell, Array.getElem?_eq_getElem hjs]; rfl, ?_⟩
        unfold World.frozen?
        rw [hgc]; simp
    obtain ⟨v2, w2, hr2, hu⟩ := run_append_upon (P := P) hc t t ty i z bytes ht hi hz hsize hby hzs (Upon.start (e := e) hc) (.slice (some a) m c) m news src (by omega) (by simpa using hbytes)
    rw [hr] at hr2
    injection hr2 with e1 e2
    subst e1 e2
    rcases hu.val with ⟨h0, hv, -⟩ | ⟨h0, g', c', hv, hat⟩
    · exact Or.inl ⟨g, cap, rfl, by rw [hv]; congr 1; omega⟩
    · right
      have hnx : Upon.next n cap 1 0 0 m = 0 := by unfold Upon.next; rw [if_neg (by omega)]
      rw [hnx] at hu
      exact ⟨fun q hq => hu.kept.block hq (fun p ⟨j, hj, _⟩ => by omega), g', c', by rw [hv]; congr 1; omega, hat.new⟩
theorem wpList_append_keep {P : Program} (w : World) {ops : Array Oper} {rest : List Oper} {o : Oper} {a : Act} {Q : Exit → Act → World → Prop} (hgd : o.guard = none) (s x : Operand) (t : TypeId)
    (ho : o.op = .call { callee := .builtin .append, args := #[s, x], argTypes := #[t, t] }) (base : Nat) (e : TypeId) (i : TypeInfo) (z : Value) (bytes : Nat) (ht : P.underlying t = some (.slice e)) (hi : P.info? e = some i) (hz : i.zero = some z)
    (hsize : i.size = 1) (hby : i.bytes = bytes) (hzs : z.cells.size = 1) (v : Value) (n : Nat) (xs : List Value) (hs : a.eval s = v) (hown : w.ownsRow base e 1 v n xs) (ad : Addr) (m c : Nat) (hm : 0 < m) (news : List Value) (hx : a.eval x = .slice (some ad) m c) (hl : news.length = m)
    (hnews : ∀ j u, news[j]? = some u → w.cell? (ad.add j) = some u) (h1 : ∀ u ∈ news, u.oneCell' = true) (h63 : n + m ≤ maxLen) (hbytes : (n + m) * bytes ≤ 140737488355328) (hbase : base ≤ w.heap.size)
    (hK : ∀ v' w', w'.ownsRow base e 1 v' (n + m) (xs ++ news) → w.grownBy w' v.ownBlock →
      PushCase w w' v v' n m → wpList P ops Q rest (a.put o.dst v') w') : wpList P ops Q (o :: rest) a w := by
  refine wpList_plain hgd fun K hK' => ?_
  obtain ⟨v', w', hrun, r1, r2, r3⟩ := run_append_keep (P := P) w base t o.type e i z bytes ht hi hz hsize hby hzs v n xs hown ad m c hm news hl hnews h1 h63 hbytes hbase
  unfold Oper.wp
  simp [execOp, ho, resolve, invoke, builtin, hs, hx, hrun, Result.andThen]
  exact hK' _ _ (hK v' w' r1 r2 r3)
/-- what a level holds stays -/
def KeepLvl (p : Nat) (w w' : World) : Prop :=
  ∀ (g n : Nat) (c : Array Value), w.heap[g]? = some (.cells c 49 (0, 0)) → (∀ m cp, w.cell? ⟨p, 2, none⟩ = some (.slice (some ⟨g, 0, none⟩) m cp) → n ≤ m) →
    (∃ c', w'.heap[g]? = some (.cells c' 49 (0, 0)) ∧ ∀ j, j < n → c'[j]? = c[j]?) ∧ (∀ m cp, w'.cell? ⟨p, 2, none⟩ = some (.slice (some ⟨g, 0, none⟩) m cp) → n ≤ m)
theorem KeepLvl.trans {p : Nat} {w w' w2 : World} (h : KeepLvl p w w') (k : KeepLvl p w' w2) : KeepLvl p w w2 := by
  intro g n c hg hn
  obtain ⟨⟨c', h1, h2⟩, h3⟩ := h g n c hg hn
  obtain ⟨⟨c2, k1, k2⟩, k3⟩ := k g n c' h1 h3
  exact ⟨⟨c2, k1, fun j hj => (k2 j hj).trans (h2 j hj)⟩, k3⟩
theorem KeepLvl.same {p : Nat} {w w' : World} (h1 : ∀ (g : Nat) (c : Array Value), w.heap[g]? = some (.cells c 49 (0, 0)) → w'.heap[g]? = w.heap[g]?) (h2 : w'.cell? ⟨p, 2, none⟩ = w.cell? ⟨p, 2, none⟩) : KeepLvl p w w' :=
  fun g n c hg hn => ⟨⟨c, (h1 g c hg).trans hg, fun _ _ => rfl⟩, fun m cp hm => hn m cp (h2 ▸ hm)⟩
theorem KeepLvl.refl (p : Nat) (w : World) : KeepLvl p w w := KeepLvl.same (fun _ _ _ => rfl) rfl
theorem KeepLvl.below {p : Nat} {w w' : World} (hb : Below w.heap.size w w') (hp : p < w.heap.size) : KeepLvl p w w' :=
  KeepLvl.same (fun g c hg => hb.block g (Array.getElem?_eq_some_iff.1 hg).1) (hb.cell (p := ⟨p, 2, none⟩) hp)
theorem KeepLvl.bits {p : Nat} {w w' : World} {cs : Array Value} {fr : Nat × Nat} (hp : w.heap[p]? = some (.cells cs 100 fr)) (hk : KeepsBut 48 w w') : KeepLvl p w w' :=
  KeepLvl.same (fun g c hg => hk g _ _ _ hg (by decide)) (World.cell?_of_block (a := ⟨p, 2, none⟩) (hk p _ _ _ hp (by decide)))
/-- one more is met: the row grows in its place, or lies anew -/
theorem KeepLvl.push {p n m : Nat} {w6 w7 : World} {v v' : Value} {xs news : List Value} {cs : Array Value} {base : Nat} {o : Obj} (hp : w6.heap[p]? = some (.cells cs 100 (0, 0))) (hv : cs[2]? = some v) (hown : w6.ownsRow base 49 1 v n xs) (hown' : w7.ownsRow base 49 1 v' (n + m) (xs ++ news))
    (hg : (w6.alloc o).grownBy w7 v.ownBlock)
    (h : PushCase (w6.alloc o) w7 v v' n m) :
    KeepLvl p w6 (w7.setCell ⟨p, 2, none⟩ v') := by
  have hpl := (Array.getElem?_eq_some_iff.1 hp).1
  have hz : (w6.alloc o).heap.size = w6.heap.size + 1 := by simp
  have h7p : w7.heap[p]? = some (.cells cs 100 (0, 0)) := by
    rw [hg.block p (by omega) (fun e => ?_), heap_alloc_old w6 _ hpl]; exact hp
    rcases hown.2 with ⟨rfl, -⟩ | ⟨g, cap, cur, rfl, -, hgc, -⟩
    · cases e
    · have : g = p := by simpa [Value.ownBlock] using e.symm
      subst this
      rw [hp] at hgc
      simp at hgc
  have h2s : 2 < cs.size := (Array.getElem?_eq_some_iff.1 hv).1
  have h8 : (w7.setCell ⟨p, 2, none⟩ v').cell? ⟨p, 2, none⟩ = some v' := by
    rw [cellO (heap_setCell_same w7 p 2 _ _ v' h7p) 2]; simp [h2s]
  have hold : ∀ g, g ≠ p → (w7.setCell ⟨p, 2, none⟩ v').heap[g]? = w7.heap[g]? := fun g hne => Below.heap_setCell _ _ _ _ (by simpa using hne)
  have h6v : w6.cell? ⟨p, 2, none⟩ = some v := (cellO hp 2).trans hv
  intro g q c hgc hq
  have hgp : g ≠ p := fun e => by subst e; rw [hp] at hgc; simp at hgc
  have hgl := (Array.getElem?_eq_some_iff.1 hgc).1
  rw [hold g hgp]
  by_cases hvg : ∃ cp, v = .slice (some ⟨g, 0, none⟩) n cp
  · obtain ⟨cp, rfl⟩ := hvg
    have hqn := hq n cp h6v
    rcases h with ⟨g', cap, e1, rfl⟩ | ⟨hall, g', cap, rfl, hge⟩
    · simp only [Value.slice.injEq, Option.some.injEq, Addr.mk.injEq, true_and, and_true] at e1
      obtain ⟨rfl, rfl⟩ := e1
      rcases hown'.2 with ⟨hx, -⟩ | ⟨g2, cap2, cur2, hx, -, hc2, -, -, -, ht2⟩
      · cases hx
      · simp only [Value.slice.injEq, Option.some.injEq, Addr.mk.injEq, true_and, and_true] at hx
        obtain ⟨rfl, -⟩ := hx
        rcases hown.2 with ⟨hx, -⟩ | ⟨g3, cap3, cur3, hx, -, hc3, -, -, -, ht3⟩
        · cases hx
        · simp only [Value.slice.injEq, Option.some.injEq, Addr.mk.injEq, true_and, and_true] at hx
          obtain ⟨rfl, -⟩ := hx
          rw [hgc] at hc3
          simp only [Option.some.injEq, Obj.cells.injEq, and_true] at hc3
          subst hc3
          have hl3 := hown.1
          refine ⟨⟨cur2, hc2, fun j hj => ?_⟩, fun m' cp' hm' => ?_⟩
          · have e2 : cur2.toList[j]? = (xs ++ news)[j]? := by rw [← ht2, List.getElem?_take_of_lt (by omega)]
            have e3 : c.toList[j]? = xs[j]? := by rw [← ht3, List.getElem?_take_of_lt (by omega)]
            rw [List.getElem?_append_left (by omega)] at e2
            rw [← Array.getElem?_toList, ← Array.getElem?_toList, e2, e3]
          · rw [h8] at hm'
            simp only [Option.some.injEq, Value.slice.injEq, true_and] at hm'
            omega
    · refine ⟨⟨c, by rw [hall g (by omega), heap_alloc_old w6 _ hgl]; exact hgc, fun _ _ => rfl⟩, fun m' cp' hm' => ?_⟩
      rw [h8] at hm'
      simp only [Option.some.injEq, Value.slice.injEq, Addr.mk.injEq, and_true] at hm'
      omega
  · have hne : some g ≠ v.ownBlock := fun e => by
      rcases hown.2 with ⟨rfl, -⟩ | ⟨g3, cap3, cur3, rfl, -⟩
      · cases e
      · have : g3 = g := by simpa [Value.ownBlock] using e.symm
        subst this
        exact hvg ⟨_, rfl⟩
    refine ⟨⟨c, by rw [hg.block g (by omega) hne, heap_alloc_old w6 _ hgl]; exact hgc, fun _ _ => rfl⟩, fun m' cp' hm' => ?_⟩
    rw [h8] at hm'
    exfalso
    rcases h with ⟨g', cap, e1, rfl⟩ | ⟨hall, g', cap, rfl, hge⟩
    · simp only [Option.some.injEq, Value.slice.injEq, Addr.mk.injEq, and_true] at hm'
      obtain ⟨rfl, -⟩ := hm'
      exact hvg ⟨_, e1⟩
    · simp only [Option.some.injEq, Value.slice.injEq, Addr.mk.injEq, and_true] at hm'
      omega
end Go.Proofs.YtffbhocgjpdjpaaDoor
namespace Go.Proofs.YtffbhocgjpdjpaaDoor
open Go.RowKit
set_option linter.unusedVariables false
set_option maxRecDepth 100000 in
set_option maxHeartbeats 1000000 in
theorem lead_old2 (w0 : World) (B p h N a : Nat) (S : Nat → Bool) (M : Nat → Nat) (T : Nat → Bool) (l : List Nat) (k : Nat) (q : Bool) (w : World) (H0 : HeapRd w0 h N S M) (hB : w0.heap.size = B) (hw : Below B w0 w) (L : LookAt w B p h N T l k q)
    (a0 : 1 ≤ a) (ha : a + 2 ≤ N) (hS' : S a = true) (hok : UnOK (M a) (M (a + 1))) (hT : T a = true) :
    Calls Tryd.prog 42 #[.pointer (some ⟨p, 0, none⟩), .int .u64 (a * 2 : Int)] w fun e w' => e = .returned (.tuple #[]) ∧ LookAt w' B p h N T l k q ∧ Below B w w' ∧ Keeps3 w w' ∧ KeepLvl p w w' := by
  have hN := H0.big
  have KL := Lib.hid (show ∃ cs fr, w.heap[p]? = some (.cells cs 100 fr) from by obtain ⟨b, v, -, -, h3, -⟩ := L; exact ⟨_, _, h3⟩)
  subst hB
  have HD := Lib.hid (fun W (hW : Below w0.heap.size w0 W) => H0.head W hW a a0 ha hS' hok)
  have LL := Lib.hid L
  have HW := Lib.hid hw
  have IS := Lib.hid (fun W => is_any (a * 2 : Int) (by omega) (by omega) W)
  rw [show decide ((a * 2 : Int) % 2 = 1) = false by simp] at IS
  have AT := Lib.hid (fun W => at_yes (a * 2 : Int) (by omega) (by omega) (by omega) W)
  rw [show (a * 2 : Int) / 2 = (a : Int) by omega] at AT
  have z0 : w.cell? ⟨p, 0, none⟩ = some (.pointer (some ⟨h, 0, none⟩)) := by obtain ⟨b, v, h1, h2, z0, -⟩ := L.parts; exact z0
  have q2 : ¬ (a : Int) * 2 = 0 := by omega
  clear hok hS' H0 L
  go_enter Tryd.func42, Tryd.ntmps42
  go_wp2_with fail
  refine (IS.out _).mono ?_
  rintro e w1 ⟨rfl, rfl⟩
  go_wp2_with fail
  refine (HD.out _ hw).mono ?_
  rintro e w2 ⟨rfl, hg2⟩
  generalize hK (M (a + 1)) = vk at *
  generalize hS (M (a + 1)) = vs at *
  generalize hH (M (a + 1)) = vh at *
  generalize hM (M (a + 1)) = vm at *
  go_wp2_with fail
  obtain ⟨w3, hw3⟩ : ∃ w3, w3 = w2.alloc (.cells #[.int .u64 (M a : Int), .int .i64 vk, .int .i64 vs, .int .u32 vh, .bool vm] 70) := ⟨_, rfl⟩
  have hg3 : Below w.heap.size w w3 := by rw [hw3]; exact hg2.alloc hg2.size _
  rw [← hw3]
  clear hw3
  obtain ⟨b, v, k1, k2, k3, k4, k5⟩ := LL.out.later hg3
  have hBw : w0.heap.size ≤ w.heap.size := HW.out.size
  have hB3 : w0.heap.size ≤ w3.heap.size := Nat.le_trans hBw hg3.size
  have SK := Lib.hid (set_keep w0.heap.size b N T (a : Int) true w3 k4 hB3)
  have hsb : setB N T (a : Int) true = false := by unfold setB; simp [hT]
  have hss : setS N T (a : Int) true = T := by
    funext j; unfold setS; split
    · rename_i hj; rw [show j = a by omega, hT]
    · rfl
  rw [hsb, hss] at SK
  have y1 := cellO k3 1
  simp at y1
  have KE := Lib.hid (show ∀ w4, KeepsBut 48 w3 w4 → BitsAt w4 w0.heap.size b N T → LookAt w4 w0.heap.size p h N T l k q from fun w4 hk hb => ⟨b, v, k1, k2, (hk p _ _ _ k3 (by decide)).trans k3, hb, k5.keeps hk (by decide)⟩)
  have HG3 := Lib.hid (hg3.mono hBw)
  have HK3 := Lib.hid (KeepsBut.below (T0 := 48) hg3)
  clear k3 k4 k5 hg2 hg3 z0
  refine (AT.out _).mono ?_
  rintro e w3' ⟨rfl, rfl⟩
  go_wp2_with fail
  refine SK.out.mono ?_
  rintro e w4 ⟨rfl, hb4, hg4, hk4⟩
  have HL4 := Lib.hid (KE.out w4 hk4 hb4)
  have HG4 := Lib.hid (HG3.out.trans hg4)
  have HK4 := Lib.hid (HK3.out.trans hk4)
  clear hb4 hg4 hk4
  go_wp2_with fail
  go_end0
  obtain ⟨cs, fr, hp⟩ := KL.out
  exact ⟨rfl, HL4.out, HG4.out, Keeps3.ofBits HK4.out, KeepLvl.bits hp HK4.out⟩
set_option maxRecDepth 100000 in
set_option maxHeartbeats 1000000 in
theorem lead_new2 (w0 : World) (B p h N a : Nat) (S : Nat → Bool) (M : Nat → Nat) (T : Nat → Bool) (l : List Nat) (k : Nat) (q : Bool) (w : World) (H0 : HeapRd w0 h N S M) (hB : w0.heap.size = B) (hw : Below B w0 w) (L : LookAt w B p h N T l k q)
    (a0 : 1 ≤ a) (ha : a + 2 ≤ N) (hS' : S a = true) (hok : UnOK (M a) (M (a + 1))) (hT : T a = false) (hl : l.length ≤ 1000000000000) (hk : k ≤ 1000000000000000000) :
    Calls Tryd.prog 42 #[.pointer (some ⟨p, 0, none⟩), .int .u64 (a * 2 : Int)] w fun e w' => e = .returned (.tuple #[]) ∧ LookAt w' B p h N (setS N T (a : Int) true) (l ++ [a * 2]) (k + 2 + (cellsZ (M a) (hK (M (a + 1))) (hS (M (a + 1))) (hH (M (a + 1)))).toNat) q ∧ Below B w w' ∧ Keeps3 w w' ∧ KeepLvl p w w' := by
  obtain ⟨i0, hi, hz0, hz1, hz2⟩ := info_parts cellInfo
  have hN := H0.big
  subst hB
  have HD := Lib.hid (fun W (hW : Below w0.heap.size w0 W) => H0.head W hW a a0 ha hS' hok)
  have LL := Lib.hid L
  have HW := Lib.hid hw
  have hMa : M a < 18446744073709551616 := H0.small a
  have IS := Lib.hid (fun W => is_any (a * 2 : Int) (by omega) (by omega) W)
  rw [show decide ((a * 2 : Int) % 2 = 1) = false by simp] at IS
  have AT := Lib.hid (fun W => at_yes (a * 2 : Int) (by omega) (by omega) (by omega) W)
  rw [show (a * 2 : Int) / 2 = (a : Int) by omega] at AT
  have z0 : w.cell? ⟨p, 0, none⟩ = some (.pointer (some ⟨h, 0, none⟩)) := by obtain ⟨b, v, h1, h2, z0, -⟩ := L.parts; exact z0
  have hcb := cellsZ_bd (M a) (hK (M (a + 1))) (hS (M (a + 1))) (hH (M (a + 1)))
  have CZ := Lib.hid (fun W => cells_any (M a : Int) (hK (M (a + 1))) (hS (M (a + 1))) (hH (M (a + 1))) (hM (M (a + 1))) (by omega) (by omega) W)
  obtain ⟨c, hc⟩ : ∃ c : Nat, cellsZ (M a) (hK (M (a + 1))) (hS (M (a + 1))) (hH (M (a + 1))) = (c : Int) := ⟨(cellsZ (M a) (hK (M (a + 1))) (hS (M (a + 1))) (hH (M (a + 1)))).toNat, by omega⟩
  rw [hc] at hcb CZ
  rw [hc, Int.toNat_natCast]
  clear hc
  have q2 : ¬ (a : Int) * 2 = 0 := by omega
  clear hok hS' H0 L
  go_enter Tryd.func42, Tryd.ntmps42
  go_wp2_with fail
  refine (IS.out _).mono ?_
  rintro e w1 ⟨rfl, rfl⟩
  go_wp2_with fail
  refine (HD.out _ hw).mono ?_
  rintro e w2 ⟨rfl, hg2⟩
  generalize hK (M (a + 1)) = vk at *
  generalize hS (M (a + 1)) = vs at *
  generalize hH (M (a + 1)) = vh at *
  generalize hM (M (a + 1)) = vm at *
  go_wp2_with fail
  obtain ⟨w3, hw3⟩ : ∃ w3, w3 = w2.alloc (.cells #[.int .u64 (M a : Int), .int .i64 vk, .int .i64 vs, .int .u32 vh, .bool vm] 70) := ⟨_, rfl⟩
  have hg3 : Below w.heap.size w w3 := by rw [hw3]; exact hg2.alloc hg2.size _
  rw [← hw3]
  have hx3 : w3.heap[w2.heap.size]? = some (.cells #[.int .u64 (M a : Int), .int .i64 vk, .int .i64 vs, .int .u32 vh, .bool vm] 70 (0, 0)) := by rw [hw3]; exact heap_alloc_new w2 _
  clear hw3
  obtain ⟨b, v, k1, k2, k3, k4, k5⟩ := LL.out.later hg3
  have hBw : w0.heap.size ≤ w.heap.size := HW.out.size
  have hB3 : w0.heap.size ≤ w3.heap.size := Nat.le_trans hBw hg3.size
  have SK := Lib.hid (set_keep w0.heap.size b N T (a : Int) true w3 k4 hB3)
  have hsb : setB N T (a : Int) true = true := by unfold setB; simp [hT]; omega
  rw [hsb] at SK
  have y1 := cellO k3 1
  simp at y1
  have KE := Lib.hid (show ∀ w4, KeepsBut 48 w3 w4 → w4.heap[p]? = some (.cells #[.pointer (some ⟨h, 0, none⟩), .pointer (some ⟨b, 0, none⟩), v, .int .i64 (k : Int), .bool q] 100 (0, 0)) ∧ w4.heap[w2.heap.size]? = some (.cells #[.int .u64 (M a : Int), .int .i64 vk, .int .i64 vs, .int .u32 vh, .bool vm] 70 (0, 0)) ∧ OwnsW w4 w0.heap.size v l from
    fun w4 hk => ⟨(hk p _ _ _ k3 (by decide)).trans k3, (hk _ _ _ _ hx3 (by decide)).trans hx3, k5.keeps hk (by decide)⟩)
  have HG3 := Lib.hid (hg3.mono hBw)
  have HK3 := Lib.hid (KeepsBut.below (T0 := 48) hg3)
  have hpw : p < w.heap.size := by obtain ⟨_, _, _, _, hp, -⟩ := LL.out; exact (Array.getElem?_eq_some_iff.1 hp).1
  have KV3 := Lib.hid (KeepLvl.below (p := p) hg3 hpw)
  have HP3 := Lib.hid k3
  clear k3 k4 k5 hg2 hg3 z0 hx3
  refine (AT.out _).mono ?_
  rintro e w3' ⟨rfl, rfl⟩
  go_wp2_with fail
  refine SK.out.mono ?_
  rintro e w4 ⟨rfl, hb4, hg4, hk4⟩
  obtain ⟨g1, g2, g3⟩ := KE.out w4 hk4
  have hp4 : p < w4.heap.size := (Array.getElem?_eq_some_iff.1 g1).1
  have z3 := cellO g1 3
  have x0 := cellO g2 0
  have x1 := cellO g2 1
  have x2 := cellO g2 2
  have x3 := cellO g2 3
  have x4 := cellO g2 4
  have f3 : w4.frozen? ⟨p, 3, none⟩ = false := by unfold World.frozen?; rw [g1]; rfl
  simp at z3 x0 x1 x2 x3 x4
  have HP4 := Lib.hid g1
  have HB4 := Lib.hid hb4
  have HO4 := Lib.hid g3
  have HG4 := Lib.hid (HG3.out.trans hg4)
  have HK4 := Lib.hid (Keeps3.ofBits (HK3.out.trans hk4))
  have KV4 := Lib.hid (KV3.out.trans (KeepLvl.bits HP3.out hk4))
  have hB4 : w0.heap.size ≤ w4.heap.size := Nat.le_trans hB3 hg4.size
  generalize w2.heap.size = x at *
  clear hb4 hg4 hk4 g1 g2 g3
  go_upto_region 6 with fail
  go_cut [] from 39 to 49 (fun wx => ∃ w5, Below w4.heap.size w4 w5 ∧ wx = w5.setCell ⟨p, 3, none⟩ (.int .i64 ((k + 2 + c : Nat) : Int)))
  case first =>
    go_region_with (go_at_call 72; go_loud (refine (CZ.out _).mono ?_; rintro e w5 ⟨rfl, hg5⟩; have hq5 : w5.cell? ⟨p, 3, none⟩ = some (.int .i64 (k : Int)) := (hg5.cell (p := ⟨p, 3, none⟩) hp4).trans z3; have hf5 : w5.frozen? ⟨p, 3, none⟩ = false := (hg5.frozen (p := ⟨p, 3, none⟩) hp4).trans f3; have HG5 := Lib.hid hg5; clear hg5))
    all_goals (go_wp2_with fail)
    all_goals go_meet
    all_goals exact ⟨_, ⟨HG5.out.os, HG5.out.tape, HG5.out.output, HG5.out.size, HG5.out.block⟩, by rw [show IntKind.i64.wrap ((k : Int) + IntKind.i64.wrap (2 + (c : Int))) = ((k + 2 + c : Nat) : Int) by simp [IntKind.wrap, IntKind.bits, IntKind.signed]; omega]⟩
  case rest =>
    obtain ⟨w5, hg5, hwc⟩ := hcut
    obtain ⟨w6, hw6⟩ : ∃ w6, w6 = wc := ⟨_, rfl⟩
    rw [← hw6]
    rw [← hw6] at hwc
    clear hw6
    have e5 : w5.heap[p]? = some (.cells #[.pointer (some ⟨h, 0, none⟩), .pointer (some ⟨b, 0, none⟩), v, .int .i64 (k : Int), .bool q] 100 (0, 0)) := (hg5.block p hp4).trans HP4.out
    have e6 : w6.heap[p]? = some (.cells #[.pointer (some ⟨h, 0, none⟩), .pointer (some ⟨b, 0, none⟩), v, .int .i64 ((k + 2 + c : Nat) : Int), .bool q] 100 (0, 0)) := by rw [hwc]; exact heap_setCell_same w5 p 3 _ _ _ e5
    have KV5 := KeepLvl.below (p := p) hg5 hp4
    have KV6 := Lib.hid (KV4.out.trans (KV5.trans (show KeepLvl p w5 w6 from KeepLvl.same (fun g c hgc => by
      rw [hwc]; exact Below.heap_setCell _ _ _ _ (fun e => by
        have e : g = p := e
        subst e; rw [e5] at hgc; simp at hgc)) (by rw [cellO e6 2, cellO e5 2]; rfl))))
    clear KV5
    have K6 : KeepsBut 100 w4 w6 := by rw [hwc]; exact (KeepsBut.below hg5).setCell ⟨_, _, e5⟩
    have G6 : Below w0.heap.size w4 w6 := by rw [hwc]; exact (hg5.mono hB4).setCell k1 _
    have hB6 : w0.heap.size ≤ w6.heap.size := Nat.le_trans hB4 G6.size
    have HB6 := Lib.hid (HB4.out.keeps K6 (by decide) (by decide))
    have ho6 := HO4.out.keeps K6 (by decide)
    have HO6 := Lib.hid ho6
    have HG6 := Lib.hid (HG4.out.trans G6)
    have HK6 := Lib.hid (HK4.out.trans (Keeps3.ofLook K6))
    have hp6 : p < w6.heap.size := (Array.getElem?_eq_some_iff.1 e6).1
    have y2 := cellO e6 2
    have f2 : w6.frozen? ⟨p, 2, none⟩ = false := by unfold World.frozen?; rw [e6]; rfl
    simp at y2
    have HP6 := Lib.hid e6
    clear hwc e5 e6 K6 G6 ho6 hg5 HP4 HB4 HO4 HG4 z3 f3 x0 x1 x2 x3 x4
    go_wp2_with (at_builtin; refine wpList_append_keep _ rfl _ _ 33 rfl w0.heap.size 49 i0 (.int .u64 0) 8 Tryd.underlying33 hi hz0 hz1 hz2 rfl _ _ _ rfl (HO6.out.alloc _) ⟨w6.heap.size, 0, none⟩ 1 1 (by decide) [.int .u64 (a * 2 : Int)] rfl rfl ?c1 ?c2 ?c3 ?c4 ?c5 ?_)
    case c1 =>
      intro j u hj
      match j, hj with
      | 0, hj => simp at hj; subst hj; simp [Addr.add]
    case c2 => intro u hu; simp at hu; subst hu; rfl
    case c3 => unfold maxLen; omega
    case c4 => omega
    case c5 => simp; omega
    intro v' w7 hown' hgrow hcase
    have KV8 := Lib.hid (KV6.out.trans (KeepLvl.push HP6.out rfl HO6.out hown' hgrow hcase))
    clear hcase
    obtain ⟨a7, n7, c7, rfl⟩ : ∃ a7 n7 c7, v' = .slice a7 n7 c7 := by
      obtain ⟨-, ⟨rfl, -⟩ | ⟨g, cap, cur, rfl, -⟩⟩ := hown'
      · exact ⟨_, _, _, rfl⟩
      · exact ⟨_, _, _, rfl⟩
    have ho7 := OwnsW.of hown' (l := l ++ [a * 2]) (by simp [wordCells])
    have K7 : KeepsBut 49 w6 w7 := ((KeepsBut.alloc _ _ _).trans (KeepsBut.grown (HO6.out.alloc _) hgrow))
    have G7 : Below w0.heap.size w6 w7 := ((Below.refl _ w6).alloc hB6 _).grown hgrow (by simp; omega) (fun q hq => (HO6.out.lt q hq).1)
    have e7 : w7.heap[p]? = some (.cells #[.pointer (some ⟨h, 0, none⟩), .pointer (some ⟨b, 0, none⟩), v, .int .i64 ((k + 2 + c : Nat) : Int), .bool q] 100 (0, 0)) := (K7 p _ _ _ HP6.out (by decide)).trans HP6.out
    have HB7 := Lib.hid (HB6.out.keeps K7 (by decide) (by decide))
    have HG7 := Lib.hid (HG6.out.trans G7)
    have HK7 := Lib.hid (HK6.out.trans (Keeps3.ofWord K7))
    have HO7 := Lib.hid ho7
    have HE7 := Lib.hid e7
    have f7 : w7.frozen? ⟨p, 2, none⟩ = false := by unfold World.frozen?; rw [e7]; rfl
    have y7 := cellO e7 2
    simp at y7
    clear hown' hgrow ho7 K7 G7 HP6 HB6 HO6 HG6 f2 y2 e7
    go_wp2_with fail
    go_end0
    refine ⟨rfl, ⟨b, _, k1, k2, heap_setCell_same w7 p 2 _ _ _ HE7.out, ?_, ?_⟩, HG7.out.setCell k1 _, HK7.out.trans (Keeps3.ofLook ((KeepsBut.refl 100 w7).setCell ⟨_, _, HE7.out⟩)), KV8.out⟩
    · exact HB7.out.keeps ((KeepsBut.refl 100 w7).setCell ⟨_, _, HE7.out⟩) (by decide) (by decide)
    · exact HO7.out.keeps ((KeepsBut.refl 100 w7).setCell ⟨_, _, HE7.out⟩) (by decide)
theorem lead_led (w0 : World) (B p h N x : Nat) (S : Nat → Bool) (M : Nat → Nat) (s : StQ) (w : World) (H0 : HeapRd w0 h N S M) (hB : w0.heap.size = B) (hw : Below B w0 w) (L : LookQ w B p h N s)
    (hG : GoodH N S M) (hx : x < 18446744073709551616) (hfine : x = 0 ∨ x % 2 = 1 ∨ (x / 2 < 16777216 ∧ S (x / 2) = true)) (hl : s.1.2.1.length ≤ 1000000000000) (hk : s.1.2.2 ≤ 1000000000000000000) :
    Calls Tryd.prog 42 #[.pointer (some ⟨p, 0, none⟩), .int .u64 (x : Int)] w fun e w' => e = .returned (.tuple #[]) ∧ LookQ w' B p h N (leadQ N S M s x) ∧ Below B w w' ∧ Keeps3 w w' ∧ KeepLvl p w w' := by
  by_cases h0 : x = 0
  · subst h0
    rw [show leadQ N S M s 0 = s by unfold leadQ; rw [if_pos (Or.inl rfl)]]
    refine (lead_zero _ w).mono ?_
    rintro e w' ⟨rfl, rfl⟩
    exact ⟨rfl, L, Below.refl _ _, Keeps3.ofBits (KeepsBut.refl _ _), KeepLvl.refl _ _⟩
  · by_cases ho : x % 2 = 1
    · rw [show leadQ N S M s x = s by unfold leadQ; rw [if_pos (Or.inr ho)]]
      refine (lead_small _ x hx ho w).mono ?_
      rintro e w' ⟨rfl, rfl⟩
      exact ⟨rfl, L, Below.refl _ _, Keeps3.ofBits (KeepsBut.refl _ _), KeepLvl.refl _ _⟩
    · have hobj : x / 2 < 16777216 ∧ S (x / 2) = true := by
        rcases hfine with h | h | h
        · exact absurd h h0
        · exact absurd h ho
        · exact h
      obtain ⟨a, rfl⟩ : ∃ a, x = a * 2 := ⟨x / 2, by omega⟩
      have e2 : a * 2 / 2 = a := by omega
      rw [show leadQ N S M s (a * 2) = (lead1 N M s.1 (a * 2), s.2) by unfold leadQ; rw [if_neg (by omega), if_pos hobj]]
      rw [e2] at hobj
      obtain ⟨⟨a0, ha, hS', hok⟩, -⟩ := hG a hobj.2
      rw [show ((a * 2 : Nat) : Int) = (a : Int) * 2 by omega]
      by_cases hT : s.1.1 a = true
      · rw [show lead1 N M s.1 (a * 2) = s.1 by unfold lead1; rw [if_neg (by omega), e2, if_pos hT]]
        exact lead_old2 w0 B p h N a S M s.1.1 s.1.2.1 s.1.2.2 s.2 w H0 hB hw L a0 ha hS' hok hT
      · rw [show lead1 N M s.1 (a * 2) = (setS N s.1.1 (a : Int) true, s.1.2.1 ++ [a * 2], s.1.2.2 + 2 + cz M a) by unfold lead1; rw [if_neg (by omega), e2, if_neg hT]]
        exact lead_new2 w0 B p h N a S M s.1.1 s.1.2.1 s.1.2.2 s.2 w H0 hB hw L a0 ha hS' hok (by simpa using hT) hl hk
set_option maxRecDepth 100000 in
set_option maxHeartbeats 1000000 in
theorem all_led (w0 : World) (B p h N a : Nat) (S : Nat → Bool) (M : Nat → Nat) (s : StQ) (w : World) (H0 : HeapRd w0 h N S M) (hB : w0.heap.size = B) (hw : Below B w0 w) (L : LookQ w B p h N s)
    (hG : GoodH N S M) (hSa : S a = true) (hwd : ∀ y, y ∈ wordsA M a → y = 0 ∨ y % 2 = 1 ∨ (y / 2 < 16777216 ∧ S (y / 2) = true)) (hl : s.1.2.1.length ≤ 10000000000) (hk : s.1.2.2 ≤ 10000000000000000) :
    Calls Tryd.prog 43 #[.pointer (some ⟨p, 0, none⟩), .int .u64 (a * 2 : Int)] w fun e w' => e = .returned (.tuple #[]) ∧ LookQ w' B p h N (allQ N S M s a) ∧ Below B w w' ∧ KeepLvl p w w' := by
  obtain ⟨⟨a0, a1, a2, hok⟩, hk2⟩ := hG a hSa
  have hN := H0.big
  have hMb : ∀ i, M i < 18446744073709551616 := H0.small
  unfold allQ
  obtain ⟨n, hn⟩ : ∃ n : Nat, hS (M (a + 1)) = (n : Int) := ⟨(hS (M (a + 1))).toNat, by unfold hS; omega⟩
  have hn2 : n ≤ 1048576 := by have := hok.2.2.1; omega
  have HD := Lib.hid (fun W (hW : Below B w0 W) => H0.head W (hB ▸ hW) a a0 a1 a2 hok)
  have GT := Lib.hid (fun W (hW : Below B w0 W) (hr : hK (M (a + 1)) ≠ 2) (i : Nat) (hi : i < n) => H0.get W (hB ▸ hW) a i a0 (by have := hk2 hr; rw [hn] at this; omega) a2 hok hr (by rw [hn]; omega))
  have LD := Lib.hid (fun W (hW : Below B w0 W) t (hL : LookQ W B p h N t) x hx hf h1 h2 => lead_led w0 B p h N x S M t W H0 hB hW hL hG hx hf h1 h2)
  have W0 := Lib.hid (hwd (M a) (by unfold wordsA; exact List.mem_cons_self))
  have WI := Lib.hid (show ∀ i, i < n → hK (M (a + 1)) ≠ 2 → M (a + 2 + i) = 0 ∨ M (a + 2 + i) % 2 = 1 ∨ (M (a + 2 + i) / 2 < 16777216 ∧ S (M (a + 2 + i) / 2) = true) from fun i hi hk => hwd _ (by
    unfold wordsA
    rw [if_neg hk, hn]
    exact List.mem_cons_of_mem _ (List.mem_map.2 ⟨i, List.mem_range.2 (by simpa using hi), rfl⟩)))
  have hpw : p < w.heap.size := by obtain ⟨_, _, _, _, hp, -⟩ := L; exact (Array.getElem?_eq_some_iff.1 hp).1
  rw [hn, Int.toNat_natCast]
  rw [hn] at HD
  have MB := Lib.hid hMb
  have LL := Lib.hid L
  have HW := Lib.hid hw
  have z0 : w.cell? ⟨p, 0, none⟩ = some (.pointer (some ⟨h, 0, none⟩)) := by obtain ⟨b, v, h1, h2, z0, -⟩ := L.parts; exact z0
  have AL := Lib.hid (fun i => allNQ_len N S M s a i)
  have hB0 : B ≤ w0.heap.size := by omega
  have hBs : B ≤ w.heap.size := Nat.le_trans hB0 hw.size
  generalize hK (M (a + 1)) = vk at *
  generalize hH (M (a + 1)) = vh at *
  generalize hM (M (a + 1)) = vm at *
  have hk3 : (vk = 2 ∧ (vk == 2) = true) ∨ (vk ≠ 2 ∧ (vk == 2) = false) := by
    by_cases h2 : vk = 2
    · exact Or.inl ⟨h2, by simpa using h2⟩
    · exact Or.inr ⟨h2, by simpa using h2⟩
  clear hok a2 H0 L hB hn hMb hG hk2 hSa hwd
  go_enter Tryd.func43, Tryd.ntmps43
  go_wp2_with fail
  refine (HD.out _ hw).mono ?_
  rintro e w2 ⟨rfl, hg2⟩
  go_wp2_with fail
  obtain ⟨w3, hw3⟩ : ∃ w3, w3 = w2.alloc (.cells #[.int .u64 (M a : Int), .int .i64 vk, .int .i64 (n : Int), .int .u32 vh, .bool vm] 70) := ⟨_, rfl⟩
  have hg3 : Below w.heap.size w w3 := by rw [hw3]; exact hg2.alloc hg2.size _
  rw [← hw3]
  have hx3 : w3.heap[w2.heap.size]? = some (.cells #[.int .u64 (M a : Int), .int .i64 vk, .int .i64 (n : Int), .int .u32 vh, .bool vm] 70 (0, 0)) := by rw [hw3]; exact heap_alloc_new w2 _
  clear hw3
  have L3 : LookQ w3 B p h N s := LL.out.later hg3
  have G3 : Below B w0 w3 := hw.trans (hg3.mono hBs)
  have HG3 := Lib.hid (hg3.mono hBs)
  have KV3 := Lib.hid (KeepLvl.below (p := p) hg3 hpw)
  generalize w2.heap.size = x at *
  refine (LD.out w3 G3 s L3 (M a) (MB.out a) W0.out (by omega) (by omega)).mono ?_
  rintro e w4 ⟨rfl, hl4, hg4, hk4, hv4⟩
  have KV4 := Lib.hid (KV3.out.trans hv4)
  clear hv4
  have hx4 := (hk4 x _ _ _ hx3 (by decide) (by decide) (by decide)).trans hx3
  have x1 := cellO hx4 1
  have x2 := cellO hx4 2
  simp at x1 x2
  have HL4 := Lib.hid (show LookQ w4 B p h N (allNQ N S M s a 0) from hl4)
  have HG4 := Lib.hid (HG3.out.trans hg4)
  clear hl4 hg4 hk4 hx4 hx3 hg3 L3 HG3 LL hg2 z0
  rcases hk3 with ⟨hv, hk3⟩ | ⟨hv, hk3⟩
  · subst hv
    clear hk3
    go_wp2_with fail
    exact bodyPost_ret (v := .tuple #[]) (by simp [results, Tryd.results43, go_sem]) rfl ⟨rfl, HL4.out, HG4.out, KV4.out⟩
  · have HV := Lib.hid hv
    clear hv
    go_wp2_with fail
    all_goals (try (exfalso; go_light; omega))
    go_loopg [27] n (fun gg s27 wr => ∃ i : Nat, gg = n - i ∧ i ≤ n ∧ s27 = .int .i64 (i : Int) ∧ LookQ wr B p h N (allNQ N S M s a i) ∧ Below B w wr ∧ KeepLvl p w wr)
    case atStart => exact ⟨0, rfl, by omega, rfl, HL4.out, HG4.out, KV4.out⟩
    case round =>
      obtain ⟨i, hgi, hi, rfl, hl5, hg5, hv5⟩ := hrel
      have KV5 := Lib.hid hv5
      have hp5 : p < wr.heap.size := by obtain ⟨_, _, _, _, hp, -⟩ := hl5; exact (Array.getElem?_eq_some_iff.1 hp).1
      clear hv5
      have HGI := Lib.hid hgi
      have HL5 := Lib.hid hl5
      have HG5 := Lib.hid hg5
      have z0 : wr.cell? ⟨p, 0, none⟩ = some (.pointer (some ⟨h, 0, none⟩)) := by obtain ⟨b, v, h1, h2, z0, -⟩ := hl5.parts; exact z0
      have G5 := Lib.hid (HW.out.trans hg5)
      have hBr : B ≤ wr.heap.size := Nat.le_trans hBs hg5.size
      clear hgi hl5 hg5
      by_cases hlt : i < n
      · go_wp2_with fail
        refine (GT.out wr G5.out HV.out i hlt).mono ?_
        rintro e w6 ⟨rfl, hg6⟩
        have hl6 : LookQ w6 B p h N (allNQ N S M s a i) := HL5.out.later hg6
        have G6 : Below B w0 w6 := G5.out.trans (hg6.mono hBr)
        have HG6 := Lib.hid (HG5.out.trans (hg6.mono hBr))
        have KV6 := Lib.hid (KV5.out.trans (KeepLvl.below (p := p) hg6 hp5))
        clear hg6
        go_wp2_with fail
        have hb := AL.out i
        refine (LD.out w6 G6 _ hl6 (M (a + 2 + i)) (MB.out _) (WI.out i hlt HV.out) (by omega) (by omega)).mono ?_
        rintro e w7 ⟨rfl, hl7, hg7, hk7, hv7⟩
        have KV7 := Lib.hid (KV6.out.trans hv7)
        clear hv7
        have HL7 := Lib.hid (show LookQ w7 B p h N (allNQ N S M s a (i + 1)) from hl7)
        have HG7 := Lib.hid (HG6.out.trans hg7)
        clear hl7 hg7 hk7
        go_wp2_with fail
        go_roundg (n - (i + 1))
        case measure => rw [HGI.out]; omega
        case rel => exact ⟨i + 1, rfl, by omega, by go_num, HL7.out, HG7.out, KV7.out⟩
      · have : i = n := by omega
        subst this
        go_wp2_with fail
        go_end0
        exact ⟨rfl, HL5.out, HG5.out, KV5.out⟩
end Go.Proofs.YtffbhocgjpdjpaaDoor
namespace Go.Proofs.YtffbhocgjpdjpaaDoor
open Go.RowKit
set_option linter.unusedVariables false
section
variable (N : Nat) (S : Nat → Bool) (M : Nat → Nat) (a b : Nat)
/-- the states of the walk, and where each level begins -/
abbrev stp (t : Nat) : StQ := ordQ N S M [a * 2] t
def lvl : Nat → Nat
  | 0 => 0
  | j + 1 => (stp N S M a (lvl j)).1.2.1.length
def elt (t : Nat) : Nat := (stp N S M a t).1.2.1.getD t 0
/-- what is found behind d more of a level -/
def fnd (j : Nat) (start : Int) : Nat → Int
  | 0 => start
  | d + 1 => if elt N S M a (lvl N S M a j + d) = b * 2 then (j : Int) else fnd j start d
def fndL : Nat → Int
  | 0 => -1
  | j + 1 => fnd N S M a b j (fndL j) (lvl N S M a (j + 1) - lvl N S M a j)
end
section
variable {N : Nat} {S : Nat → Bool} {M : Nat → Nat} {a : Nat}
theorem stp_grow (hG : GoodH N S M) (t d : Nat) : (stp N S M a t).1.2.1 <+: (stp N S M a (t + d)).1.2.1 := by
  induction d with
  | zero => exact List.prefix_refl _
  | succ d ih => exact ih.trans (ord_ext (R := [a * 2]) hG (t + d)).2.1
theorem stp_bd (hG : GoodH N S M) (t : Nat) : (stp N S M a t).1.2.1.length ≤ N := by
  have h := (ord_inv (R := [a * 2]) hG t).inv
  rw [h.len]; exact cnt_le _ N
theorem lvl_bd (hG : GoodH N S M) (j : Nat) : lvl N S M a j ≤ N := by
  cases j with
  | zero => exact Nat.zero_le _
  | succ j => exact stp_bd hG _
theorem lvl_mono (hG : GoodH N S M) (j : Nat) : lvl N S M a j ≤ lvl N S M a (j + 1) := by
  cases j with
  | zero => exact Nat.zero_le _
  | succ j =>
    have ih := lvl_mono hG j
    show (stp N S M a (lvl N S M a j)).1.2.1.length ≤ (stp N S M a (lvl N S M a (j + 1))).1.2.1.length
    obtain ⟨d, hd⟩ : ∃ d, lvl N S M a (j + 1) = lvl N S M a j + d := ⟨lvl N S M a (j + 1) - lvl N S M a j, by omega⟩
    rw [hd]
    exact (stp_grow hG _ d).length_le
/-- what stands at a place of the list is what stood there -/
theorem elt_at (hG : GoodH N S M) {t d : Nat} (h : t + d < (stp N S M a t).1.2.1.length) : (stp N S M a t).1.2.1[t + d]? = some (elt N S M a (t + d)) := by
  obtain ⟨r, hr⟩ := stp_grow (a := a) hG t d
  have e : (stp N S M a (t + d)).1.2.1[t + d]? = (stp N S M a t).1.2.1[t + d]? := by rw [← hr, List.getElem?_append_left h]
  have e2 := List.getElem?_eq_getElem h
  unfold elt
  rw [List.getD_eq_getElem?_getD, e, e2]; rfl
theorem stp_next {t : Nat} (h : t < (stp N S M a t).1.2.1.length) : stp N S M a (t + 1) = allQ N S M (stp N S M a t) (elt N S M a t / 2) := by
  show (if t < (ordQ N S M [a * 2] t).1.2.1.length then _ else _) = _
  rw [if_pos h]; rfl
theorem elt_obj (hG : GoodH N S M) {t : Nat} (h : t < (stp N S M a t).1.2.1.length) : ∃ c, elt N S M a t = c * 2 ∧ S c = true ∧ Wd S M [a * 2] (c * 2) := by
  have inv := (ord_inv (R := [a * 2]) hG t).inv
  have hm : elt N S M a t ∈ (stp N S M a t).1.2.1 := by
    unfold elt
    rw [List.getD_eq_getElem?_getD, List.getElem?_eq_getElem h]; exact List.getElem_mem h
  obtain ⟨c, hc, hmet⟩ := inv.wait _ hm
  exact ⟨c, hc, (inv.met c hmet).2, (inv.met c hmet).1⟩
end
set_option maxRecDepth 100000 in
theorem begin_led (h N : Nat) (S : Nat → Bool) (M : Nat → Nat) (w : World) (H : HeapRd w h N S M) :
    Calls Tryd.prog 41 #[.pointer (some ⟨h, 0, none⟩)] w fun e w' => ∃ p, e = .returned (.pointer (some ⟨p, 0, none⟩)) ∧ LookAt w' w.heap.size p h N (fun _ => false) [] 0 false ∧ Below w.heap.size w w' := by
  have HC := Lib.hid (H.cells w (Below.refl _ _))
  have hN := H.big
  have NB := Lib.hid (newBits_any (N : Int) w)
  rw [show sizeZ (N : Int) = N by unfold sizeZ; omega] at NB
  go_enter Tryd.func41, Tryd.ntmps41
  go_wp2_with fail
  refine HC.out.mono ?_
  rintro e w1 ⟨rfl, rfl⟩
  go_wp2_with fail
  refine NB.out.mono ?_
  rintro e w2 ⟨rfl, hb, hg⟩
  have HB := Lib.hid hb; have HG := Lib.hid hg; clear hb hg
  go_wp2_with fail
  go_ret
  have hs : w1.heap.size ≤ w2.heap.size := HG.out.size
  refine ⟨w2.heap.size, rfl, ⟨w1.heap.size + 1, .slice none 0 0, hs, by omega, heap_alloc_new w2 _, HB.out.later ((Below.refl _ w2).alloc (Nat.le_refl _) _), show World.ownsRow _ _ _ _ _ 0 [] from World.ownsRow_nil _ _ _ _⟩, HG.out.alloc hs _⟩
/-- what Steps tells -/
def stepsR (F : Int) : Int × Int := if F < 0 then (0, 6) else (F, 0)
set_option maxRecDepth 100000 in
set_option maxHeartbeats 1000000 in
theorem steps_led (h N a b : Nat) (S : Nat → Bool) (M : Nat → Nat) (w : World) (H0 : HeapRd w h N S M) (hN : N ≤ 100000) (hG : GoodH N S M) (ha : S a = true) (hb : S b = true) (hfine : ∀ y, Wd S M [a * 2] y → y = 0 ∨ y % 2 = 1 ∨ (y / 2 < 16777216 ∧ S (y / 2) = true)) :
    Calls Tryd.prog 17 #[.pointer (some ⟨h, 0, none⟩), .int .u64 (a * 2 : Int), .int .u64 (b * 2 : Int)] w fun e w' => ∃ J, lvl N S M a (J + 1) = lvl N S M a J ∧ (∀ j, j < J → lvl N S M a j < lvl N S M a (j + 1)) ∧
      e = .returned (.tuple #[.int .i64 (stepsR (fndL N S M a b J)).1, .int .i64 (stepsR (fndL N S M a b J)).2]) ∧ Below w.heap.size w w' := by
  obtain ⟨B, hB⟩ : ∃ B, w.heap.size = B := ⟨_, rfl⟩
  obtain ⟨⟨a1, a2, -, aok⟩, -⟩ := hG a ha
  obtain ⟨⟨b1, b2, -, -⟩, -⟩ := hG b hb
  have HS1 := Lib.hid (fun W (hW : Below B w W) => H0.has W (hB ▸ hW) a a1 (by omega))
  have HS2 := Lib.hid (fun W (hW : Below B w W) => H0.has W (hB ▸ hW) b b1 (by omega))
  rw [ha] at HS1
  rw [hb] at HS2
  have CE := Lib.hid (fun W (hW : Below B w W) => H0.cells W (hB ▸ hW))
  have LD := Lib.hid (fun p W (hW : Below B w W) (hL : LookQ W B p h N noneQ) => lead_led w B p h N (a * 2) S M _ W H0 hB hW hL hG (by omega) (Or.inr (Or.inr ⟨by omega, by rw [show a * 2 / 2 = a by omega]; exact ha⟩)) (Nat.zero_le _) (Nat.zero_le _))
  rw [show ((a * 2 : Nat) : Int) = (a : Int) * 2 by omega, show leadQ N S M noneQ (a * 2) = stp N S M a 0 from rfl] at LD
  have AA := Lib.hid (fun p W (hW : Below B w W) t (hL : LookQ W B p h N t) c hc hwd h1 h2 => all_led w B p h N c S M t W H0 hB hW hL hG hc hwd h1 h2)
  have FINE := Lib.hid hfine
  have GG := Lib.hid hG
  have BDS := Lib.hid (show ∀ t, (stp N S M a t).1.2.1.length ≤ N ∧ (stp N S M a t).1.2.2 ≤ 1048578 * N from fun t => by
    have h := (ord_inv (R := [a * 2]) hG t).inv
    have h2 := cnt_le (stp N S M a t).1.1 N
    have h3 := ksum_bd M (stp N S M a t).1.1 N
    rw [h.len, h.sum]
    exact ⟨h2, h3⟩)
  have NOL := Lib.hid (show ∀ t, (stp N S M a t).2 = false from fun t => by
    cases hq : (stp N S M a t).2 with
    | false => rfl
    | true =>
      exfalso
      obtain ⟨y, hy, y0, y1, y2⟩ := (ord_inv (R := [a * 2]) hG t).inv.loose hq
      rcases hfine y hy with h | h | h
      · exact y0 h
      · omega
      · exact y2 h)
  have BR := Lib.hid (show Below B w w from Below.refl _ _)
  have HBB := Lib.hid (fun W (hW : Below B w W) W' (h' : Below W.heap.size W W') => show Below B w W' from hW.trans (h'.mono (by have := hW.size; omega)))
  have BG2 := Lib.hid (fun W (hW : Below B w W) p W' (hL : LookAt W' W.heap.size p h N (fun _ => false) [] 0 false) => show LookQ W' B p h N noneQ from by
    obtain ⟨b', v, k1, k2, k3, k4, k5⟩ := hL
    have hs : B ≤ W.heap.size := by have := hW.size; omega
    exact ⟨b', v, by omega, by omega, k3, k4.mono hs, OwnsW.mono k5 hs⟩)
  have BG := Lib.hid (fun W (hW : Below B w W) => begin_led h N S M W (H0.later (hB ▸ hW)))
  rw [hB]
  clear H0 hG ha hb hfine aok hB
  go_enter Tryd.func17, Tryd.ntmps17
  go_wp2_with fail
  refine (HS1.out w BR.out).mono ?_
  rintro e w1 ⟨rfl, hg1⟩
  have HG1 := Lib.hid (HBB.out w BR.out w1 hg1)
  clear hg1
  go_wp2_with fail
  refine (HS2.out w1 HG1.out).mono ?_
  rintro e w2 ⟨rfl, hg2⟩
  have HG2 := Lib.hid (HBB.out w1 HG1.out w2 hg2)
  clear hg2
  go_wp2_with fail
  refine (BG.out w2 HG2.out).mono ?_
  rintro e w3 ⟨p, rfl, hl3, hg3⟩
  have HL3 := Lib.hid (BG2.out w2 HG2.out p w3 hl3)
  have HG3 := Lib.hid (HBB.out w2 HG2.out w3 hg3)
  clear hl3 hg3
  go_wp2_with fail
  refine (LD.out p w3 HG3.out HL3.out).mono ?_
  rintro e w4 ⟨rfl, hl4, hg4, hk4, hv4⟩
  have HL4 := Lib.hid (show LookQ w4 B p h N (stp N S M a (lvl N S M a 0)) from hl4)
  have HG4 := Lib.hid (HG3.out.trans hg4)
  clear hl4 hg4 hk4 hv4
  go_wp2_with fail
  go_loopg [9, 10, 11] (N + 1) (fun gg s9 s10 s11 wr => ∃ j : Nat, gg = N + 1 - j ∧ j ≤ lvl N S M a j ∧ s9 = .int .i64 (fndL N S M a b j) ∧ s10 = .int .i64 (j : Int) ∧ s11 = .int .i64 (lvl N S M a j : Int) ∧ LookQ wr B p h N (stp N S M a (lvl N S M a j)) ∧ Below B w wr ∧ ∀ i, i < j → lvl N S M a i < lvl N S M a (i + 1))
  case atStart => exact ⟨0, rfl, Nat.zero_le _, rfl, rfl, rfl, HL4.out, HG4.out, fun i hi => by omega⟩
  case round =>
    obtain ⟨j, hgj, hj, rfl, rfl, rfl, hl5, hg5, hup⟩ := hrel
    obtain ⟨w5, hw5⟩ : ∃ z, z = wr := ⟨_, rfl⟩
    subst hw5
    have HGJ := Lib.hid hgj
    have HL5 := Lib.hid hl5
    have HG5 := Lib.hid hg5
    have HUP := Lib.hid hup
    obtain ⟨zl, hpl⟩ := hl5.loose
    have hLN := lvl_bd (a := a) GG.out j
    have hLN1 := lvl_bd (a := a) GG.out (j + 1)
    have hLM := lvl_mono (a := a) GG.out j
    have hlen : (stp N S M a (lvl N S M a j)).1.2.1.length = lvl N S M a (j + 1) := rfl
    rw [NOL.out] at zl
    clear hgj hg5 hup HL4 HG4 HL3 HG3
    by_cases hlt : lvl N S M a j < lvl N S M a (j + 1)
    · obtain ⟨g, cp, y1, y2, y3, ⟨gc, y4⟩, y5⟩ := LookAt.row hl5 (by intro h; rw [h] at hlen; simp at hlen; omega)
      have Y4 := Lib.hid y4
      have Y5 := Lib.hid y5
      unfold maxLen at y3
      rw [hlen] at y1 y2
      have Y1 := Lib.hid y1
      have HLE := Lib.hid hlen
      obtain ⟨L0, hL0⟩ : ∃ L0, lvl N S M a j = L0 := ⟨_, rfl⟩
      obtain ⟨D, hD⟩ : ∃ D, lvl N S M a (j + 1) = L0 + D := ⟨lvl N S M a (j + 1) - L0, by omega⟩
      have HFL := Lib.hid (show fndL N S M a b (j + 1) = fnd N S M a b j (fndL N S M a b j) D by
        show fnd N S M a b j (fndL N S M a b j) (lvl N S M a (j + 1) - lvl N S M a j) = _
        rw [hD, hL0]; congr 1; omega)
      have HFD := Lib.hid (show ∀ d, fnd N S M a b j (fndL N S M a b j) (d + 1) = if elt N S M a (L0 + d) = b * 2 then (j : Int) else fnd N S M a b j (fndL N S M a b j) d from fun d => by
        show (if elt N S M a (lvl N S M a j + d) = b * 2 then _ else _) = _
        rw [hL0])
      have HL0 := Lib.hid hL0; have HD := Lib.hid hD
      rw [hL0, hD] at hlt hlen
      rw [hL0] at hLN hLM hj
      rw [hD] at y1 y2 hLN1 hLM
      rw [hL0]
      clear hl5 y4 y5 hL0 hD
      have HGJ2 := Lib.hid hj
      have hdec : decide ((L0 : Int) < (L0 : Int) + (D : Int)) = true := by simp; omega
      go_wp2_with fail
      all_goals (try (exfalso; go_light; omega))
      have HL5' := Lib.hid (show LookQ w5 B p h N (stp N S M a (L0 + 0)) by have := HL5.out; rw [HL0.out] at this; exact this)
      go_loopg [9, 52] D (fun gg s9 s52 wx => ∃ i : Nat, gg = D - i ∧ i ≤ D ∧ s9 = .int .i64 (fnd N S M a b j (fndL N S M a b j) i) ∧ s52 = .int .i64 (i : Int) ∧ LookQ wx B p h N (stp N S M a (L0 + i)) ∧ Below B w wx ∧ KeepLvl p w5 wx)
      case atStart => exact ⟨0, rfl, by omega, rfl, rfl, HL5'.out, HG5.out, KeepLvl.refl _ _⟩
      case round =>
        obtain ⟨i, hgi, hi, rfl, rfl, hl6, hg6, hk6⟩ := hrel
        obtain ⟨wi, hwi⟩ : ∃ z, z = wr := ⟨_, rfl⟩
        subst hwi
        have HGI := Lib.hid hgi
        have HL6 := Lib.hid hl6
        have HG6 := Lib.hid hg6
        have HK6 := Lib.hid hk6
        clear hgi hl6 hg6 hk6 HL5 HG5 HL5'
        by_cases hid : i < D
        · have hlt2 : L0 + i < (stp N S M a L0).1.2.1.length := by rw [hlen]; omega
          have hel := elt_at (a := a) GG.out hlt2
          have hl2 : L0 + i < (stp N S M a (L0 + i)).1.2.1.length := Nat.lt_of_lt_of_le hlt2 (stp_grow (a := a) GG.out L0 i).length_le
          obtain ⟨c, hc, hSc, hWc⟩ := elt_obj (a := a) GG.out hl2
          have hnx := stp_next (a := a) hl2
          rw [hc] at hel hnx
          rw [show c * 2 / 2 = c by omega] at hnx
          have hcell0 := Y5.out (L0 + i) (c * 2) (by rw [HL0.out]; exact hel)
          have hcell : wi.cell? ⟨g, L0 + i, none⟩ = some (.int .u64 ((c : Int) * 2)) := by
            obtain ⟨⟨c', h1, h2⟩, -⟩ := HK6.out g (L0 + D) gc Y4.out (fun m cp' hm => by
              rw [Y1.out] at hm
              simp only [Option.some.injEq, Value.slice.injEq, true_and] at hm
              have := HD.out
              omega)
            rw [cellO h1, h2 (L0 + i) (by omega), ← cellO Y4.out, hcell0]
            congr 1
          have hfd := HFD.out i
          rw [hc] at hfd
          have hbd := BDS.out (L0 + i)
          have AAi := Lib.hid (AA.out p wi HG6.out (stp N S M a (L0 + i)) HL6.out c hSc (fun y hy => FINE.out y (Wd.step hWc hSc hy)) (by omega) (by omega))
          rw [← hnx] at AAi
          obtain ⟨fv, hfv⟩ : ∃ fv, fnd N S M a b j (fndL N S M a b j) i = fv := ⟨_, rfl⟩
          rw [hfv] at hfd ⊢
          clear hlt2 hel hl2 hc hSc hWc hnx hcell0 hbd
          by_cases hcb : c = b
          · subst hcb
            rw [if_pos rfl] at hfd
            have HF2 := Lib.hid hfd
            clear hfd hfv
            go_wp2_with fail
            all_goals (try (exfalso; go_light; omega))
            refine AAi.out.mono ?_
            rintro e w9 ⟨rfl, hl9, hg9, hk9⟩
            have HL9 := Lib.hid (show LookQ w9 B p h N (stp N S M a (L0 + (i + 1))) from hl9)
            have HG9 := Lib.hid (HG6.out.trans hg9)
            have HK9 := Lib.hid (HK6.out.trans hk9)
            clear hl9 hg9 hk9
            go_wp2_with fail
            all_goals (try (exfalso; go_light; omega))
            go_roundg (D - (i + 1))
            case measure => rw [HGI.out]; omega
            case rel => exact ⟨i + 1, rfl, by omega, by rw [HF2.out], by go_num, HL9.out, HG9.out, HK9.out⟩
          · rw [if_neg (by omega)] at hfd
            have HF2 := Lib.hid hfd
            have hcb2 : ¬ (c : Int) * 2 = b * 2 := by omega
            clear hfd hfv hcb
            go_wp2_with fail
            all_goals (try (exfalso; go_light; omega))
            refine AAi.out.mono ?_
            rintro e w9 ⟨rfl, hl9, hg9, hk9⟩
            have HL9 := Lib.hid (show LookQ w9 B p h N (stp N S M a (L0 + (i + 1))) from hl9)
            have HG9 := Lib.hid (HG6.out.trans hg9)
            have HK9 := Lib.hid (HK6.out.trans hk9)
            clear hl9 hg9 hk9
            go_wp2_with fail
            all_goals (try (exfalso; go_light; omega))
            go_roundg (D - (i + 1))
            case measure => rw [HGI.out]; omega
            case rel => exact ⟨i + 1, rfl, by omega, by rw [HF2.out], by go_num, HL9.out, HG9.out, HK9.out⟩
        · obtain rfl : i = D := by omega
          have HL7 := Lib.hid (show LookQ wi B p h N (stp N S M a (lvl N S M a (j + 1))) by rw [HD.out]; exact HL6.out)
          have HUP2 := Lib.hid (show ∀ k, k < j + 1 → lvl N S M a k < lvl N S M a (k + 1) from fun k hk => by
            by_cases hkj : k = j
            · subst hkj; rw [HL0.out, HD.out]; omega
            · exact HUP.out k (by omega))
          have HJ1 := Lib.hid (show j + 1 ≤ lvl N S M a (j + 1) by rw [HD.out]; omega)
          have HDN := Lib.hid (show ((L0 + i : Nat) : Int) = (lvl N S M a (j + 1) : Int) by rw [HD.out])
          obtain ⟨wa, wcap, z2, -, -⟩ := HL6.out.wait
          go_wp2_with fail
          all_goals (try (exfalso; go_light; omega))
          go_roundg (N + 1 - (j + 1))
          case measure => rw [HGJ.out]; omega
          case rel => exact ⟨j + 1, rfl, HJ1.out, by rw [HFL.out], by go_num, by rw [← HDN.out]; simp, HL7.out, HG6.out, HUP2.out⟩
    · have hJ : lvl N S M a (j + 1) = lvl N S M a j := by omega
      obtain ⟨wa, wcap, z2, -, -⟩ := hl5.wait
      rw [hlen, hJ] at z2
      have HJ := Lib.hid hJ
      clear hl5 hlen hLM hLN1 hJ hlt
      generalize hF : fndL N S M a b j = F at *
      have HF := Lib.hid hF
      clear hF
      by_cases hneg : F < 0
      · have hr : stepsR F = (0, 6) := if_pos hneg
        have HR := Lib.hid hr
        clear hr
        go_wp2_with fail
        all_goals (try (exfalso; go_light; omega))
        refine bodyPost_ret (v := .tuple #[.int .i64 0, .int .i64 6]) (by simp [results, Tryd.results17, go_sem]) rfl ⟨j, HJ.out, HUP.out, by rw [HF.out, HR.out], HG5.out⟩
      · have hr : stepsR F = (F, 0) := if_neg hneg
        have HR := Lib.hid hr
        clear hr
        go_wp2_with fail
        all_goals (try (exfalso; go_light; omega))
        refine bodyPost_ret (v := .tuple #[.int .i64 F, .int .i64 0]) (by simp [results, Tryd.results17, go_sem]) rfl ⟨j, HJ.out, HUP.out, by rw [HF.out, HR.out], HG5.out⟩
end Go.Proofs.YtffbhocgjpdjpaaDoor
namespace Go.Proofs.YtffbhocgjpdjpaaDoor
open Go.RowKit
set_option linter.unusedVariables false
theorem HeapC.rd {w : World} {B h N free : Nat} {S : Nat → Bool} {M : Nat → Nat} (H : HeapC w B h N free S M) : HeapRd w h N S M :=
  ⟨by obtain ⟨g, s, C, f, -, -, h3, -⟩ := H; exact h3, by obtain ⟨g, s, C, f, -, -, -, -, -, -, -, -, -, -, h7, -⟩ := H; exact h7,
   fun W hW a h1 h2 h3 h4 => cHead_yes B h N free a S M W (H.later hW) h1 h2 h3 h4, fun W hW a i h1 h2 h3 h4 h5 h6 => cget_yes B h N free a i S M W (H.later hW) h1 h2 h3 h4 h5 h6,
   fun W hW a h1 h2 => chas_yes B h N free a S M W (H.later hW) h1 h2, fun W hW => ccells_any B h N free S M W (H.later hW)⟩
theorem Wd.through {S : Nat → Bool} {M : Nat → Nat} {R R' : List Nat} (hR : ∀ x, x ∈ R' → Wd S M R x) {y : Nat} (hy : Wd S M R' y) : Wd S M R y := by
  induction hy with
  | root hx => exact hR _ hx
  | @step a y _ hs hy ih => exact Wd.step ih hs hy
section
variable {N N2 : Nat} {S T : Nat → Bool} {M : Nat → Nat} {R R' : List Nat}
theorem roots_rel2 (c : CollOK N S M) (h : Stay S M R T) (hN : 2 + ksum M T N ≤ N2) (hR : ∀ x, x ∈ R' → Wd S M R x) (i : Nat) (hi : i ≤ R'.length) :
    RelQ M T (rootsQ N S M R' i) (rootsQ N2 (newS N M T) (newM N M T) (R'.map (turnM M T)) i) := by
  induction i with
  | zero => exact rel_none
  | succ i ih =>
    show RelQ M T (leadQ N S M _ (R'.getD i 1)) (leadQ N2 _ _ _ ((R'.map (turnM M T)).getD i 1))
    rw [getD_turn]
    refine lead_rel c h hN (ih (by omega)) (hR _ ?_)
    rw [List.getD_eq_getElem?_getD, List.getElem?_eq_getElem (by omega)]
    exact List.getElem_mem (by omega)
theorem wait_stay2 (hG : GoodH N S M) (h : Stay S M R T) (hR : ∀ x, x ∈ R' → Wd S M R x) (i : Nat) {x : Nat} (hx : x ∈ (ordQ N S M R' i).1.2.1) : ∃ a, x = a * 2 ∧ T a = true := by
  have inv := (ord_inv (R := R') hG i).inv
  obtain ⟨a, rfl, hm⟩ := inv.wait x hx
  obtain ⟨h1, h2⟩ := inv.met a hm
  exact ⟨a, rfl, (h.iff a).2 ⟨h1.through hR, h2⟩⟩
theorem ord_rel2 (hG : GoodH N S M) (c : CollOK N S M) (h : Stay S M R T) (hN : 2 + ksum M T N ≤ N2) (hR : ∀ x, x ∈ R' → Wd S M R x) (i : Nat) :
    RelQ M T (ordQ N S M R' i) (ordQ N2 (newS N M T) (newM N M T) (R'.map (turnM M T)) i) := by
  induction i with
  | zero =>
    show RelQ M T (rootsQ N S M R' R'.length) (rootsQ N2 _ _ (R'.map (turnM M T)) (R'.map (turnM M T)).length)
    rw [List.length_map]
    exact roots_rel2 c h hN hR _ (Nat.le_refl _)
  | succ i ih =>
    have hl : (ordQ N2 (newS N M T) (newM N M T) (R'.map (turnM M T)) i).1.2.1.length = (ordQ N S M R' i).1.2.1.length := by rw [ih.wait, List.length_map]
    unfold ordQ
    rw [hl]
    by_cases hi : i < (ordQ N S M R' i).1.2.1.length
    · rw [if_pos hi, if_pos hi]
      obtain ⟨a, ha, hT⟩ := wait_stay2 hG h hR i (List.getElem_mem hi)
      have hg := List.getElem?_eq_getElem hi
      rw [ha] at hg
      have e1 : (ordQ N S M R' i).1.2.1.getD i 0 = a * 2 := by rw [List.getD_eq_getElem?_getD, hg]; rfl
      have e2 : (ordQ N2 (newS N M T) (newM N M T) (R'.map (turnM M T)) i).1.2.1.getD i 0 = npl M T a * 2 := by
        rw [ih.wait, List.getD_eq_getElem?_getD, List.getElem?_map, hg]
        show turnM M T (a * 2) = _
        exact turn_obj (by have := (c.lt (h.sub hT)).2.2; omega) (c.lt (h.sub hT)).2.1 hT
      rw [e1, e2, show a * 2 / 2 = a by omega, show npl M T a * 2 / 2 = npl M T a by omega]
      exact all_rel c h hN ih hT
    · rw [if_neg hi, if_neg hi]; exact ih
theorem stay_wd (h : Stay S M R T) {a : Nat} (ha : T a = true) : ∀ x, x ∈ [a * 2] → Wd S M R x := fun x hx => by
  have : x = a * 2 := by simpa using hx
  rw [this]; exact ((h.iff a).1 ha).1
theorem stp_rel (hG : GoodH N S M) (c : CollOK N S M) (h : Stay S M R T) (hN : 2 + ksum M T N ≤ N2) {a : Nat} (ha : T a = true) (t : Nat) :
    RelQ M T (stp N S M a t) (stp N2 (newS N M T) (newM N M T) (npl M T a) t) := by
  have := ord_rel2 hG c h hN (stay_wd h ha) t
  rw [List.map_singleton, turn_obj (by have := (c.lt (h.sub ha)).2.2; omega) (c.lt (h.sub ha)).2.1 ha] at this
  exact this
theorem lvl_same (hG : GoodH N S M) (c : CollOK N S M) (h : Stay S M R T) (hN : 2 + ksum M T N ≤ N2) {a : Nat} (ha : T a = true) (j : Nat) : lvl N2 (newS N M T) (newM N M T) (npl M T a) j = lvl N S M a j := by
  induction j with
  | zero => rfl
  | succ j ih =>
    show (stp N2 _ _ _ (lvl N2 (newS N M T) (newM N M T) (npl M T a) j)).1.2.1.length = (stp N S M a (lvl N S M a j)).1.2.1.length
    rw [ih, (stp_rel hG c h hN ha _).wait, List.length_map]
theorem elt_same (hG : GoodH N S M) (c : CollOK N S M) (h : Stay S M R T) (hN : 2 + ksum M T N ≤ N2) {a b : Nat} (ha : T a = true) (hb : T b = true) {t : Nat} (ht : t < (stp N S M a t).1.2.1.length) :
    elt N2 (newS N M T) (newM N M T) (npl M T a) t = npl M T b * 2 ↔ elt N S M a t = b * 2 := by
  obtain ⟨d, hd, hTd⟩ := wait_stay2 hG h (stay_wd h ha) t (List.getElem_mem ht)
  have hg := List.getElem?_eq_getElem ht
  rw [hd] at hg
  have e1 : elt N S M a t = d * 2 := by unfold elt; rw [List.getD_eq_getElem?_getD, hg]; rfl
  have e2 : elt N2 (newS N M T) (newM N M T) (npl M T a) t = npl M T d * 2 := by
    unfold elt
    rw [(stp_rel hG c h hN ha t).wait, List.getD_eq_getElem?_getD, List.getElem?_map, hg]
    show turnM M T (d * 2) = _
    exact turn_obj (by have := (c.lt (h.sub hTd)).2.2; omega) (c.lt (h.sub hTd)).2.1 hTd
  rw [e1, e2]
  constructor
  · intro e
    rw [ksum_inj (M := M) hTd hb (by unfold npl at e; omega)]
  · intro e
    rw [show d = b by omega]
theorem fnd_same (hG : GoodH N S M) (c : CollOK N S M) (h : Stay S M R T) (hN : 2 + ksum M T N ≤ N2) {a b : Nat} (ha : T a = true) (hb : T b = true) (j : Nat) (F : Int) (d : Nat) (hd : lvl N S M a j + d ≤ lvl N S M a (j + 1)) :
    fnd N2 (newS N M T) (newM N M T) (npl M T a) (npl M T b) j F d = fnd N S M a b j F d := by
  induction d with
  | zero => rfl
  | succ d ih =>
    have ht : lvl N S M a j + d < (stp N S M a (lvl N S M a j + d)).1.2.1.length :=
      Nat.lt_of_lt_of_le (show lvl N S M a j + d < (stp N S M a (lvl N S M a j)).1.2.1.length from by show _ < lvl N S M a (j + 1); omega) (stp_grow hG _ d).length_le
    have e := elt_same hG c h hN ha hb ht
    show (if elt N2 _ _ _ (lvl N2 (newS N M T) (newM N M T) (npl M T a) j + d) = npl M T b * 2 then _ else _) = (if elt N S M a (lvl N S M a j + d) = b * 2 then _ else _)
    rw [lvl_same hG c h hN ha]
    by_cases hc : elt N S M a (lvl N S M a j + d) = b * 2
    · rw [if_pos hc, if_pos (e.2 hc)]
    · rw [if_neg hc, if_neg (fun hh => hc (e.1 hh))]
      exact ih (by omega)
theorem fndL_same (hG : GoodH N S M) (c : CollOK N S M) (h : Stay S M R T) (hN : 2 + ksum M T N ≤ N2) {a b : Nat} (ha : T a = true) (hb : T b = true) (j : Nat) :
    fndL N2 (newS N M T) (newM N M T) (npl M T a) (npl M T b) j = fndL N S M a b j := by
  induction j with
  | zero => rfl
  | succ j ih =>
    show fnd N2 _ _ _ _ j (fndL N2 _ _ _ _ j) (lvl N2 _ _ _ (j + 1) - lvl N2 _ _ _ j) = fnd N S M a b j (fndL N S M a b j) (lvl N S M a (j + 1) - lvl N S M a j)
    have hm := lvl_mono (a := a) hG j
    rw [ih, lvl_same hG c h hN ha, lvl_same hG c h hN ha]
    exact fnd_same hG c h hN ha hb j _ _ (by omega)
/-- the levels end -/
theorem lvl_end (hG : GoodH N S M) (a : Nat) : ∃ J, lvl N S M a (J + 1) = lvl N S M a J ∧ ∀ j, j < J → lvl N S M a j < lvl N S M a (j + 1) := by
  refine Classical.byContradiction fun hno => ?_
  have key : ∀ j, lvl N S M a j < lvl N S M a (j + 1) := by
    intro j
    induction j using Nat.strongRecOn with
    | ind j ih =>
      have hm := lvl_mono (a := a) hG j
      by_cases he : lvl N S M a (j + 1) = lvl N S M a j
      · exact absurd ⟨j, he, ih⟩ hno
      · omega
  have up : ∀ j, j ≤ lvl N S M a j := by
    intro j
    induction j with
    | zero => exact Nat.zero_le _
    | succ j ih => have := key j; omega
  have := up (N + 1)
  have := lvl_bd (a := a) hG (N + 1)
  omega
theorem lvl_one {a J K : Nat} (h : lvl N S M a (J + 1) = lvl N S M a J ∧ ∀ j, j < J → lvl N S M a j < lvl N S M a (j + 1)) (k : lvl N S M a (K + 1) = lvl N S M a K ∧ ∀ j, j < K → lvl N S M a j < lvl N S M a (j + 1)) : J = K := by
  rcases Nat.lt_trichotomy J K with hl | hl | hl
  · have := k.2 J hl; have := h.1; omega
  · exact hl
  · have := h.2 K hl; have := k.1; omega
end
/-- Steps of both memories: the same -/
theorem steps_both {S T : Nat → Bool} {M : Nat → Nat} {R : List Nat} (hG : GoodH 200 S M) (c : CollOK 200 S M) (h : Stay S M R T) {a b : Nat} (ha : T a = true) (hb : T b = true) (hc hn : Nat) (w : World) (H : HeapRd w hc 200 S M) (H2 : HeapRd w hn 200 (newS 200 M T) (newM 200 M T)) :
    ∃ x e : Int, ∀ W, Below w.heap.size w W →
      (Calls Tryd.prog 17 #[.pointer (some ⟨hc, 0, none⟩), .int .u64 (a * 2 : Int), .int .u64 (b * 2 : Int)] W fun q w' => q = .returned (.tuple #[.int .i64 x, .int .i64 e]) ∧ Below W.heap.size W w') ∧
      (Calls Tryd.prog 17 #[.pointer (some ⟨hn, 0, none⟩), .int .u64 (npl M T a * 2 : Int), .int .u64 (npl M T b * 2 : Int)] W fun q w' => q = .returned (.tuple #[.int .i64 x, .int .i64 e]) ∧ Below W.heap.size W w') := by
  obtain ⟨J, hJ⟩ := lvl_end hG a
  have hr := h.room c
  refine ⟨(stepsR (fndL 200 S M a b J)).1, (stepsR (fndL 200 S M a b J)).2, fun W hW => ⟨?_, ?_⟩⟩
  · refine (steps_led hc 200 a b S M W (H.later hW) (by omega) hG (h.sub ha) (h.sub hb) (fun y hy => ?_)).mono ?_
    · rcases turn_in c h (hy.through (stay_wd h ha)) with ⟨h0, -⟩ | ⟨h0, -⟩ | ⟨d, rfl, hT, -⟩
      · exact Or.inl h0
      · exact Or.inr (Or.inl h0)
      · have := c.lt (h.sub hT)
        exact Or.inr (Or.inr ⟨by omega, by rw [show d * 2 / 2 = d by omega]; exact h.sub hT⟩)
    · rintro q w' ⟨K, k1, k2, hq, hb'⟩
      obtain rfl := lvl_one hJ ⟨k1, k2⟩
      exact ⟨hq, hb'⟩
  · have hst := new_stay c h
    have hna : newS 200 M T (npl M T a) = true := (newS_iff c h).2 ⟨a, ha, rfl⟩
    have hnb : newS 200 M T (npl M T b) = true := (newS_iff c h).2 ⟨b, hb, rfl⟩
    refine (steps_led hn 200 (npl M T a) (npl M T b) (newS 200 M T) (newM 200 M T) W (H2.later hW) (by omega) (new_goodH c h) hna hnb (fun y hy => ?_)).mono ?_
    · have hw := hy.through (stay_wd hst hna)
      by_cases hy0 : y = 0
      · exact Or.inl hy0
      · by_cases hy1 : y % 2 = 1
        · exact Or.inr (Or.inl hy1)
        · exact Or.inr (Or.inr (Classical.byContradiction fun hh => hst.good ⟨y, hw, hy0, by omega, hh⟩))
    · rintro q w' ⟨K, k1, k2, hq, hb'⟩
      have hK := lvl_one (K := K) (show lvl 200 (newS 200 M T) (newM 200 M T) (npl M T a) (J + 1) = lvl 200 (newS 200 M T) (newM 200 M T) (npl M T a) J ∧ ∀ j, j < J → lvl 200 (newS 200 M T) (newM 200 M T) (npl M T a) j < lvl 200 (newS 200 M T) (newM 200 M T) (npl M T a) (j + 1) from by
        refine ⟨by rw [lvl_same hG c h hr ha, lvl_same hG c h hr ha]; exact hJ.1, fun j hj => ?_⟩
        rw [lvl_same hG c h hr ha, lvl_same hG c h hr ha]
        exact hJ.2 j hj) ⟨k1, k2⟩
      subst hK
      rw [fndL_same hG c h hr ha hb] at hq
      exact ⟨hq, hb'⟩
set_option maxRecDepth 100000 in
/-- Live: how many cells would be used -/
theorem live_any (B0 h N free : Nat) (S : Nat → Bool) (M : Nat → Nat) (rs : List Nat) (xv : Value) (w : World) (H0 : HeapAt w B0 h N free S M) (hG : GoodH N S M) (hx : WordsAt w xv rs) (hrs : ∀ x, x ∈ rs → x < 18446744073709551616) (hl : rs.length ≤ 1000000) :
    Calls Tryd.prog 9 #[.pointer (some ⟨h, 0, none⟩), xv] w fun e w' => ((Bad S M rs ∧ e = .returned (.tuple #[.int .i64 0, .int .i64 13])) ∨ (∃ T, Stay S M rs T ∧ e = .returned (.tuple #[.int .i64 (2 + (ksum M T N : Int)), .int .i64 0]))) ∧ Below w.heap.size w w' := by
  have RE := Lib.hid (reach_words B0 h N free S M rs xv w H0 hG hx hrs hl)
  have hN : N ≤ 16777216 := by obtain ⟨g, s, -, -, h3, -⟩ := H0; exact h3
  obtain ⟨xa, xc, rfl, -⟩ := id hx
  clear H0 hG hx hrs
  go_enter Tryd.func9, Tryd.ntmps9
  go_wp2_with fail
  refine RE.out.mono ?_
  rintro e w1 ⟨⟨hb, rfl⟩ | ⟨hb, b, T, rfl, -, hT⟩, hg⟩
  · have HG := Lib.hid hg; have HB := Lib.hid hb
    clear hg hb
    go_wp2_with fail
    go_ret2
    exact ⟨Or.inl ⟨HB.out, rfl⟩, HG.out⟩
  · have HG := Lib.hid hg; have HS := Lib.hid (show Stay S M rs T from ⟨hT, hb⟩)
    have hk := ksum_bd M T N
    obtain ⟨k, hke⟩ : ∃ k, ksum M T N = k := ⟨_, rfl⟩
    rw [hke] at hk ⊢
    have HK := Lib.hid hke
    clear hg hb hT hke
    go_wp2_with fail
    go_ret2
    exact ⟨Or.inr ⟨T, HS.out, by rw [HK.out]; rfl⟩, HG.out⟩
/-- Reach, where all that there is is led to -/
theorem reach_all (B0 h N free k : Nat) (S : Nat → Bool) (M : Nat → Nat) (rs : List Nat) (xv : Value) (w : World) (H0 : HeapAt w B0 h N free S M) (hG : GoodH N S M) (hst : Stay S M rs S) (hk : ksum M S N = k) (hx : WordsAt w xv rs) (hrs : ∀ x, x ∈ rs → x < 18446744073709551616) (hl : rs.length ≤ 1000000) :
    Calls Tryd.prog 16 #[.pointer (some ⟨h, 0, none⟩), xv] w fun e w' => ∃ b, e = .returned (.tuple #[.pointer (some ⟨b, 0, none⟩), .int .i64 (k : Int), .int .i64 0]) ∧ Below w.heap.size w w' := by
  refine (reach_words B0 h N free S M rs xv w H0 hG hx hrs hl).mono ?_
  rintro e w' ⟨⟨hb, -⟩ | ⟨hb, b, T, rfl, -, hT⟩, hg⟩
  · exact absurd hb hst.good
  · have hTS : S = T := (show Stay S M rs T from ⟨hT, hb⟩).unique hst
    rw [← hTS, hk]
    exact ⟨b, rfl, hg⟩
end Go.Proofs.YtffbhocgjpdjpaaDoor
namespace Go.Proofs.YtffbhocgjpdjpaaDoor.foundlingReached
open Go.Joins Go.ChangeShapes Go.WideShapes Go.ChangeAt Go.RowKit Go.Deep
set_option linter.unusedVariables false
theorem HeapC.stays {w w' : World} {h B' h' N free : Nat} {S : Nat → Bool} {M : Nat → Nat} (H : HeapC w B' h' N free S M) (hh : h < B') {c : Array Value} {fr : Nat × Nat} (hb : w.heap[h]? = some (.cells c 94 fr)) (hq : ∀ q, q ≠ h → q < w.heap.size → w'.heap[q]? = w.heap[q]?) : HeapC w' B' h' N free S M := by
  obtain ⟨g, s, C, f, h1, h2, h3, h3', h4, hCN, hCm, h5, h6, hf, h7, h8⟩ := H
  have hk : KeepsBut 94 w w' := fun q c' T' fr' hc hT => hq q (fun e => by
    subst e
    rw [hb] at hc
    simp at hc
    exact hT hc.2.1.symm) (Array.getElem?_eq_some_iff.1 hc).1
  exact ⟨g, s, C, f, h1, h2, h3, h3', h4, hCN, hCm, by rw [hq h' (by omega) (Array.getElem?_eq_some_iff.1 h5).1]; exact h5, h6.of_block (hq g (by omega) h6.lt), hf, h7, h8.keeps hk (by decide) (by decide)⟩
theorem cnt_gap {T : Nat → Bool} {n d : Nat} (h : ∀ j, n ≤ j → j < n + d → T j = false) : cnt T (n + d) = cnt T n := by
  induction d with
  | zero => rfl
  | succ d ih =>
    show cnt T (n + d) + (T (n + d)).toNat = _
    rw [h (n + d) (by omega) (by omega), ih (fun j a b => h j a (by omega))]; rfl
theorem cnt_up (T : Nat → Bool) (n d : Nat) : cnt T n ≤ cnt T (n + d) := by
  induction d with
  | zero => exact Nat.le_refl _
  | succ d ih => exact Nat.le_trans ih (Nat.le_add_right _ _)
/-- how many begin below the next one -/
theorem from_cnt {N : Nat} {S : Nat → Bool} {i x : Nat} (hi : i ≤ N) (h : IsFrom N S (i : Int) x) : (x = 0 ∧ cnt S N = cnt S i) ∨ ∃ k, x = k * 2 ∧ k < N ∧ i ≤ k ∧ S k = true ∧ cnt S k = cnt S i := by
  rcases h with ⟨rfl, h⟩ | ⟨k, rfl, h1, h2, h3, h4⟩
  · obtain ⟨d, rfl⟩ : ∃ d, N = i + d := ⟨N - i, by omega⟩
    exact Or.inl ⟨rfl, cnt_gap fun j a b => h j (by omega) b⟩
  · obtain ⟨d, rfl⟩ : ∃ d, k = i + d := ⟨k - i, by omega⟩
    exact Or.inr ⟨i + d, rfl, h1, by omega, h3, cnt_gap fun j a b => h4 j (by omega) b⟩
/-- all that the walk wants of memory behind the collection -/
theorem after_all {S T : Nat → Bool} {M : Nat → Nat} {R ol : List Nat} {m : Nat} (hG : GoodH 200 S M) (c : CollOK 200 S M) (h : Stay S M R T) (hR : ∀ x, x ∈ R → x < 18446744073709551616) (e1 : ol = (ordQ 200 S M R m).1.2.1) (e2 : ol.length = m) :
    ∃ (S2 : Nat → Bool) (M2 : Nat → Nat) (k : Nat), newS 200 M T = S2 ∧ newM 200 M T = M2 ∧ ksum M T 200 = k ∧ GoodH 200 S2 M2 ∧ Stay S2 M2 (R.map (turnM M T)) S2 ∧ (∀ x, x ∈ R.map (turnM M T) → x < 18446744073709551616) ∧ S2 0 = false ∧ ksum M2 S2 200 = k ∧ cnt S2 200 = cnt T 200 ∧ 2 + k ≤ 200 ∧
      (∀ (l' : List Nat) (m' : Nat), l' = (ordQ 200 S2 M2 (R.map (turnM M T)) m').1.2.1 → l'.length = m' → l' = ol.map (turnM M T)) ∧ (∀ x, x ∈ ol → ∃ a, x = a * 2 ∧ T a = true) ∧ (∀ a, T a = true → turnM M T (a * 2) = npl M T a * 2) := by
  refine ⟨_, _, _, rfl, rfl, rfl, new_goodH c h, new_stay c h, fun x hx => ?_, ?_, (new_counts c h).2, (new_counts c h).1, h.room c, fun l' m' f1 f2 => (order_turned hG c h (h.room c) e1 e2 f1 f2).1, fun x hx => ?_, fun a ha => turn_obj (by have := (c.lt (h.sub ha)).2.2; omega) (c.lt (h.sub ha)).2.1 ha⟩
  · obtain ⟨y, hy, rfl⟩ := List.mem_map.1 hx
    exact turn_small c h (hR y hy)
  · cases h0 : newS 200 M T 0 with
    | false => rfl
    | true => have := newS_low c h h0; omega
  · exact wait_stay hG h m (by rw [← e1]; exact hx)
set_option maxRecDepth 100000 in
set_option maxHeartbeats 4000000 in
theorem walk (kv gv xv : Value) (ks : List Int) (ls xs : List Nat) (w : World) (hk : NumsAt w .i64 kv ks) (hg : WordsAt w gv ls) (hls : ∀ x, x ∈ ls → x < 18446744073709551616) (hx : WordsAt w xv xs) (hxs : ∀ x, x ∈ xs → x < 18446744073709551616)
    (hT : TabAt 0 Lib.deBruijn64tab w) :
    Calls Tryd.prog 3 #[.agg #[kv, gv], xv] w fun e w' => e = .returned (.bool true) ∧ Below w.heap.size w w' := by
  have LY := Lib.hid (fun W (hW : Below w.heap.size w W) => lay_any kv gv ks ls W (hk.later hW) (hg.later hW) hls)
  have HX := Lib.hid hx; have HXS := Lib.hid hxs; have HT := Lib.hid hT
  obtain ⟨ka, kcap, rfl, -⟩ := id hk
  obtain ⟨ga, gcap, rfl, -⟩ := id hg
  clear hk hg hls hx hxs hT
  go_enter Tryd.func3, Tryd.ntmps3
  go_upto_region 1 with fail
  obtain ⟨w1, hw1⟩ : ∃ w1, w1 = w.alloc (.cells #[.slice ka ks.length kcap, .slice ga ls.length gcap] 25) := ⟨_, rfl⟩
  rw [← hw1]
  have hh1 : w1.heap[w.heap.size]? = some (.cells #[.slice ka ks.length kcap, .slice ga ls.length gcap] 25 (0, 0)) := by rw [hw1]; exact heap_alloc_new w _
  have hb1 : Below w.heap.size w w1 := by rw [hw1]; exact (Below.refl _ w).alloc (Nat.le_refl _) _
  have y0 := cellO hh1 0
  have y1 := cellO hh1 1
  simp at y0 y1
  have m1 : w.heap.size < w1.heap.size := (Array.getElem?_eq_some_iff.1 hh1).1
  have B1 := Lib.hid hb1
  clear hw1 hh1 hb1
  go_wp2_with fail
  refine (LY.out w1 B1.out).mono ?_
  rintro e w3 ⟨h, lv, os, free, S, M, E, rfl, hh3, hlay, hol, hro, hg3⟩
  obtain ⟨la, lc, rfl⟩ : ∃ la lc, lv = .slice la os.length lc := by obtain ⟨la, lc, _, h1, -⟩ := hro; exact ⟨_, _, h1⟩
  have hfr := hlay.most
  have hM : ∀ i, M i < 18446744073709551616 := by obtain ⟨g, s, -, -, -, -, -, -, -, h, -⟩ := hh3; exact h
  have hhB : w1.heap.size + 2 ≤ w3.heap.size ∧ h < w3.heap.size := by
    obtain ⟨g, s, k1, k2, k3, k3', k4, k5, -⟩ := hh3
    have := (Array.getElem?_eq_some_iff.1 k5).1
    omega
  have HG := Lib.hid (hlay.good (by omega))
  have HC := Lib.hid (hlay.coll (N := 200) (by omega) (by omega) hM)
  have HSM := Lib.hid (hlay.small (by omega))
  have B3 := Lib.hid (B1.out.trans (hg3.mono B1.out.size))
  have HH3 := Lib.hid hh3; have HRO := Lib.hid hro
  clear hh3 hlay hro hg3 y0 y1 hM
  go_upto_region 4 with fail
  obtain ⟨w4, hw4⟩ : ∃ w4, w4 = w3.alloc (.cells #[.int .i64 200, .slice la os.length lc, .int .u32 0] 30) := ⟨_, rfl⟩
  rw [← hw4]
  have hh4 : w4.heap[w3.heap.size]? = some (.cells #[.int .i64 200, .slice la os.length lc, .int .u32 0] 30 (0, 0)) := by rw [hw4]; exact heap_alloc_new w3 _
  have hb4 : Below w3.heap.size w3 w4 := by rw [hw4]; exact (Below.refl _ w3).alloc (Nat.le_refl _) _
  have B4 := Lib.hid (B3.out.trans (hb4.mono B3.out.size))
  have d0 := cellO hh4 0
  have d1 := cellO hh4 1
  have d2 := cellO hh4 2
  have m4 := (Array.getElem?_eq_some_iff.1 hh4).1
  simp at d0 d1 d2
  have HH4 := Lib.hid (HH3.out.later hb4)
  have HRO4 := Lib.hid (HRO.out.later hb4)
  clear hw4 hh4 hb4
  go_wp2_with fail
  refine (roots_any E _ xv os xs w4 HRO4.out (HX.out.later B4.out) HXS.out HSM.out (by omega)).mono ?_
  rintro e w5 ⟨av, bv, r1, rfl, hr1l, hr1, hoa, -, hg5⟩
  have hr1b : r1.length ≤ 6 := by omega
  have HH5 := Lib.hid (HH4.out.later hg5)
  have B5 := Lib.hid (B4.out.trans (hg5.mono B4.out.size))
  have WA5 := Lib.hid (words_of_owns hoa)
  obtain ⟨aa, ac, rfl⟩ := owns_len hoa
  have R1 := Lib.hid hr1
  have hs5 := hg5.size
  have LV := Lib.hid (live_any _ h 200 free S M r1 _ w5 HH5.out HG.out WA5.out hr1 (by omega))
  clear hr1l hr1 hoa hg5 d0 d1 d2
  go_wp2_with fail
  refine LV.out.mono ?_
  rintro e w6 ⟨hcase, hg6⟩
  have B6 := Lib.hid (B5.out.trans (hg6.mono B5.out.size))
  have HH6 := Lib.hid (HH5.out.later hg6)
  have WA6 := Lib.hid (WA5.out.later hg6)
  have hs6 := hg6.size
  have CL := Lib.hid (hclone_any _ h 200 free S M w6 HH6.out (by omega))
  clear hg6 LV
  obtain ⟨lvn, lve, rfl, hlive⟩ : ∃ (lvn lve : Int), e = .returned (.tuple #[.int .i64 lvn, .int .i64 lve]) ∧ ((Bad S M r1 ∧ lve = 13) ∨ ∃ T, Stay S M r1 T ∧ lvn = 2 + (ksum M T 200 : Int) ∧ lve = 0) := by
    rcases hcase with ⟨hb, rfl⟩ | ⟨T, hs, rfl⟩
    · exact ⟨_, _, rfl, Or.inl ⟨hb, rfl⟩⟩
    · exact ⟨_, _, rfl, Or.inr ⟨T, hs, rfl, rfl⟩⟩
  have HLV := Lib.hid hlive
  clear hcase hlive
  go_wp2_with fail
  refine CL.out.mono ?_
  rintro e w7 ⟨hc, rfl, hcl7, hg7⟩
  have B7 := Lib.hid (B6.out.trans (hg7.mono B6.out.size))
  have HH7 := Lib.hid (HH6.out.later hg7)
  have WA7 := Lib.hid (WA6.out.later hg7)
  have CC7 := Lib.hid hcl7
  have hs7 := hg7.size
  have ORD := Lib.hid (order_words _ h 200 free S M r1 _ w7 HH7.out HG.out WA7.out R1.out (by omega))
  clear hg7 hcl7 CL
  go_wp2_with fail
  refine ORD.out.mono ?_
  rintro e w8 ⟨hcase, hg8⟩
  have B8 := Lib.hid (B7.out.trans (hg8.mono B7.out.size))
  have HH8 := Lib.hid (HH7.out.later hg8)
  have WA8 := Lib.hid (WA7.out.later hg8)
  have CC8 := Lib.hid (CC7.out.later hg8)
  have hs8 := hg8.size
  have COL := Lib.hid (collect_any _ h 200 free S M r1 _ w8 HH8.out (by omega) HG.out HC.out WA8.out R1.out (by omega) (tab_later HT.out B8.out) (by omega) (by omega))
  have hhb : ∃ c, w8.heap[h]? = some (.cells c 94 (0, 0)) := by obtain ⟨g, s, -, -, -, -, -, k5, -⟩ := HH8.out; exact ⟨_, k5⟩
  have HHB := Lib.hid hhb
  clear hg8 ORD hhb
  rcases hcase with ⟨hbad, rfl⟩ | ⟨T, ov, ol, hst, rfl, how, hlen, m, e1, -, e3⟩
  · have hlv : lve = 13 := by
      rcases HLV.out with ⟨-, h1⟩ | ⟨T, hs, -⟩
      · exact h1
      · exact absurd hbad hs.good
    subst hlv
    have HBAD := Lib.hid hbad
    clear hbad
    go_wp2_with fail
    all_goals try (exfalso; go_light; omega)
    refine COL.out.mono ?_
    rintro e w9 ⟨cv, cr, rfl, hbB, hbq, hcase⟩
    rcases hcase with ⟨-, rfl, rfl, hh9⟩ | ⟨-, T2, hst2, -⟩
    · obtain ⟨c, hhb⟩ := HHB.out
      have B9 := Lib.hid (B8.out.trans (hbB.mono (by have := B1.out.size; omega)))
      have SM := Lib.hid (hsame_yes _ _ h hc 200 free S M w9 hh9 (HeapC.stays CC8.out (by omega) hhb hbq))
      clear hbB hbq hh9 COL hhb
      go_wp2_with fail
      all_goals try (exfalso; go_light; omega)
      refine SM.out.mono ?_
      rintro e w10 ⟨rfl, hg10⟩
      have B10 := Lib.hid (B9.out.trans (hg10.mono B9.out.size))
      clear hg10
      go_wp2_with fail
      go_ret
      exact ⟨rfl, B10.out⟩
    · exact absurd HBAD.out hst2.good
  · have hlv : lve = 0 ∧ lvn = 2 + (ksum M T 200 : Int) := by
      rcases HLV.out with ⟨h1, -⟩ | ⟨T', hs, h1, h2⟩
      · exact absurd h1 hst.good
      · obtain rfl := hs.unique hst
        exact ⟨h2, h1⟩
    obtain ⟨rfl, hlvn⟩ := hlv
    obtain ⟨S2, M2, k, f1, f2, f3, f4, f5, f6, f7, f8, f9, f10, f11, f12, f13⟩ := after_all HG.out HC.out hst R1.out e1 e3
    have STAY := Lib.hid hst
    rw [f3] at hlvn
    subst hlvn
    have F1 := Lib.hid f1; have F2 := Lib.hid f2; have F3 := Lib.hid f3; have F4 := Lib.hid f4; have F5 := Lib.hid f5; have F6 := Lib.hid f6; have F7 := Lib.hid f7; have F8 := Lib.hid f8; have F9 := Lib.hid (f9.trans hlen.symm); have F11 := Lib.hid f11; have F12 := Lib.hid f12; have F13 := Lib.hid f13
    have hob : ol.length ≤ 200 := by rw [hlen]; exact cnt_le T 200
    obtain ⟨oa, oc, rfl⟩ := owns_len how
    have KO8 := Lib.hid (show ∀ i, i < ol.length → ∃ g, oa = some ⟨g, 0, none⟩ ∧ h < g ∧ g < w8.heap.size ∧ w8.cell? ⟨g, i, none⟩ = some (.int .u64 (ol.getD i 0 : Int)) from fun i hi => by
      obtain ⟨g, cp, he, hgB⟩ := owns_shape how (by omega)
      simp only [Value.slice.injEq] at he
      obtain ⟨rfl, -, rfl⟩ := he
      have hc : w8.cell? ⟨g, i, none⟩ = some (.int .u64 (ol.getD i 0 : Int)) := by
        rw [World.ownsRow.cellAt how i (by omega), List.getD_eq_getElem?_getD]
        simp [wordCells, List.getElem?_map, List.getElem?_eq_getElem hi]
      exact ⟨g, rfl, by omega, lt_of_cell hc, hc⟩)
    clear hst how hlen e1 e3 f1 f2 f3 f4 f5 f6 f7 f8 f9 f11 f12 f13 HLV
    go_wp2_with fail
    all_goals try (exfalso; go_light; omega)
    refine COL.out.mono ?_
    rintro e w9 ⟨cv, cr, rfl, hbB, hbq, hcase⟩
    rcases hcase with ⟨hbad, -⟩ | ⟨rfl, T2, hst2, hout, hh9⟩
    · exact absurd hbad STAY.out.good
    · obtain rfl := hst2.unique STAY.out
      have hh9 : HeapAt w9 (w1.heap.size + 2) h 200 (2 + ksum M T 200) (newS 200 M T) (newM 200 M T) := hh9
      rw [F1.out, F2.out, F3.out] at hh9
      obtain ⟨c, hhb⟩ := HHB.out
      have hs9 := hbB.size
      have HH9 := Lib.hid hh9
      have CC9 := Lib.hid (HeapC.stays CC8.out (by omega) hhb hbq)
      have B9 := Lib.hid (B8.out.trans (hbB.mono (by have := B1.out.size; omega)))
      obtain ⟨ca, cc, rfl⟩ := owns_len hout
      have WB := Lib.hid (words_of_owns (l := r1.map (turnM M T)) (n := r1.length) hout)
      have ORD2 := Lib.hid (order_words _ h 200 (2 + k) S2 M2 (r1.map (turnM M T)) _ w9 hh9 F4.out WB.out F6.out (by rw [List.length_map]; omega))
      have KO9 := Lib.hid (show ∀ i, i < ol.length → ∃ g, oa = some ⟨g, 0, none⟩ ∧ g < w9.heap.size ∧ w9.cell? ⟨g, i, none⟩ = some (.int .u64 (ol.getD i 0 : Int)) from fun i hi => by
        obtain ⟨g, h1, h2, h3, h4⟩ := KO8.out i hi
        exact ⟨g, h1, by omega, (World.cell?_of_block (a := ⟨g, i, none⟩) (hbq g (by omega) h3)).trans h4⟩)
      clear hh9 hbB hbq hout hst2 COL hhb
      go_wp2_with fail
      refine ORD2.out.mono ?_
      rintro e w10 ⟨hcase, hg10⟩
      rcases hcase with ⟨hbad, -⟩ | ⟨T3, nv, nl, hst3, rfl, hnw, hnlen, m3, e1, -, e3⟩
      · exact absurd hbad F5.out.good
      · obtain rfl := F11.out nl m3 e1 e3
        obtain ⟨na, nc, rfl⟩ := owns_len hnw
        have HNW := Lib.hid (words_of_owns (l := ol.map (turnM M T)) hnw)
        have HH10 := Lib.hid (HH9.out.later hg10)
        have CC10 := Lib.hid (CC9.out.later hg10)
        have B10 := Lib.hid (B9.out.trans (hg10.mono B9.out.size))
        have WB10 := Lib.hid (WB.out.later hg10)
        have KO10 := Lib.hid (show ∀ i, i < ol.length → ∃ g, oa = some ⟨g, 0, none⟩ ∧ g < w10.heap.size ∧ w10.cell? ⟨g, i, none⟩ = some (.int .u64 (ol.getD i 0 : Int)) from fun i hi => by
          obtain ⟨g, h1, h2, h3⟩ := KO9.out i hi
          exact ⟨g, h1, by have := hg10.size; omega, (hg10.cell (p := ⟨g, i, none⟩) h2).trans h3⟩)
        have US := Lib.hid (used_any _ h 200 (2 + k) S2 M2 w10 HH10.out)
        have C1 := Lib.hid (hcells_any _ h 200 (2 + k) S2 M2 w10 HH10.out)
        have C2 := Lib.hid (ccells_any _ hc 200 free S M w10 CC10.out)
        have RE := Lib.hid (reach_all _ h 200 (2 + k) k S2 M2 (r1.map (turnM M T)) _ w10 HH10.out F4.out F5.out F8.out WB10.out F6.out (by rw [List.length_map]; omega))
        rw [List.length_map]
        clear hst3 hnw hnlen e1 e3 hg10 ORD2 KO8 KO9
        go_wp2_with fail
        all_goals try (exfalso; go_light; omega)
        refine US.out.mono ?_
        rintro e w11 ⟨rfl, rfl⟩
        go_wp2_with fail
        all_goals try (exfalso; go_light; omega)
        refine C1.out.mono ?_
        rintro e w11 ⟨rfl, rfl⟩
        go_wp2_with fail
        all_goals try (exfalso; go_light; omega)
        refine C2.out.mono ?_
        rintro e w11 ⟨rfl, rfl⟩
        go_wp2_with fail
        all_goals try (exfalso; go_light; omega)
        refine RE.out.mono ?_
        rintro e w12 ⟨bb, rfl, hg12⟩
        · have HH12 := Lib.hid (HH10.out.later hg12)
          have CC12 := Lib.hid (CC10.out.later hg12)
          have B12 := Lib.hid (B10.out.trans (hg12.mono B10.out.size))
          have HN12 := Lib.hid (HNW.out.later hg12)
          have US2 := Lib.hid (used_any _ h 200 (2 + k) S2 M2 w12 HH12.out)
          have KO12 := Lib.hid (show ∀ i, i < ol.length → ∃ g, oa = some ⟨g, 0, none⟩ ∧ g < w12.heap.size ∧ w12.cell? ⟨g, i, none⟩ = some (.int .u64 (ol.getD i 0 : Int)) from fun i hi => by
            obtain ⟨g, h1, h2, h3⟩ := KO10.out i hi
            exact ⟨g, h1, by have := hg12.size; omega, (hg12.cell (p := ⟨g, i, none⟩) h2).trans h3⟩)
          clear hg12 RE US C1 C2
          go_wp2_with fail
          all_goals try (exfalso; go_light; omega)
          refine US2.out.mono ?_
          rintro e w13 ⟨rfl, rfl⟩
          have hq1 : IntKind.i64.wrap (2 + (k : Int) - 2) = (k : Int) := by simp [IntKind.wrap, IntKind.bits, IntKind.signed]; omega
          have hq2 : 2 + (k : Int) - 2 = (k : Int) := by omega
          have hq3 : ((k : Int) != (k : Int)) = false := by simp
          go_upto_region 18 with fail
          clear hq1 hq2 hq3 US2
          have SB := Lib.hid (fun a b (ha : T a = true) (hb : T b = true) => steps_both HG.out HC.out STAY.out ha hb hc h w13 CC12.out.rd (by rw [F1.out, F2.out]; exact HH12.out.rd))
          have KN := Lib.hid (show ∀ i, i < ol.length → ∃ g o, na = some ⟨g, o, none⟩ ∧ g < w13.heap.size ∧ w13.cell? ⟨g, o + i, none⟩ = some (.int .u64 (turnM M T (ol.getD i 0) : Int)) from fun i hi => by
            obtain ⟨na', nc', he, -, -, h3⟩ := HN12.out.get
            simp only [Value.slice.injEq] at he
            obtain ⟨rfl, -, rfl⟩ := he
            obtain ⟨b, o, rfl, hbl, hc⟩ := h3 i (by rw [List.length_map]; exact hi)
            refine ⟨b, o, rfl, hbl, ?_⟩
            rw [hc, List.getElem_map, List.getD_eq_getElem?_getD, List.getElem?_eq_getElem hi]; rfl)
          obtain ⟨cs, hcs⟩ : ∃ cs : Nat → Nat, cs = cnt S2 := ⟨_, rfl⟩
          have CN := Lib.hid (show ∀ (i x : Nat), i ≤ 200 → IsFrom 200 S2 (i : Int) x → (x = 0 ∧ cs 200 = cs i) ∨ ∃ q, x = q * 2 ∧ q < 200 ∧ i ≤ q ∧ S2 q = true ∧ cs q = cs i from fun i x hi hf => by rw [hcs]; exact from_cnt hi hf)
          have CS := Lib.hid (show ∀ q, S2 q = true → cs (q + 1) = cs q + 1 from fun q hq => by
            rw [hcs]; show cnt S2 q + (S2 q).toNat = _; rw [hq]; rfl)
          have C0 := Lib.hid (show cs 0 = 0 by rw [hcs]; rfl)
          have CE := Lib.hid (show cs 200 = ol.length by rw [hcs]; exact F9.out)
          have CB := Lib.hid (show ∀ q, q ≤ 200 → cs q ≤ ol.length from fun q hq => by
            rw [← CE.out, hcs]
            obtain ⟨d, hd⟩ : ∃ d, 200 = q + d := ⟨200 - q, by omega⟩
            rw [hd]; exact cnt_up S2 q d)
          clear hcs
          go_wp2_with fail
          go_loopg [21] 7 (fun gg s21 wr => ∃ i : Nat, gg = 7 - i ∧ i ≤ 6 ∧ i ≤ ol.length ∧ s21 = .int .i64 (i : Int) ∧ Below w13.heap.size w13 wr)
          case atStart => exact ⟨0, rfl, by omega, by omega, rfl, Below.refl _ _⟩
          case round =>
            obtain ⟨i, hgi, hi6, hil, rfl, hb⟩ := hrel
            obtain ⟨wi, hwi⟩ : ∃ z, z = wr := ⟨_, rfl⟩
            subst hwi
            have HGI := Lib.hid hgi; have HB := Lib.hid hb
            have BR := Lib.hid (B12.out.trans (hb.mono B12.out.size))
            clear hgi
            by_cases hgo : i < ol.length ∧ i < 6
            · obtain ⟨h1, h2⟩ := hgo
              have h2' : (i : Int) < 6 := by omega
              clear hb
              go_wp2_with fail
              all_goals try (exfalso; go_light; omega)
              go_loopg [22] 7 (fun gg s22 wx => ∃ q : Nat, gg = 7 - q ∧ q ≤ 6 ∧ q ≤ ol.length ∧ s22 = .int .i64 (q : Int) ∧ Below w13.heap.size w13 wx)
              case atStart => exact ⟨0, rfl, by omega, by omega, rfl, HB.out⟩
              case round =>
                obtain ⟨q, hgq, hq6, hql, rfl, hbx⟩ := hrel
                obtain ⟨wx, hwx⟩ : ∃ z, z = wr := ⟨_, rfl⟩
                subst hwx
                have HGQ := Lib.hid hgq; have HBX := Lib.hid hbx
                clear hgq
                by_cases hgoq : q < ol.length ∧ q < 6
                · obtain ⟨g1, g2⟩ := hgoq
                  have g2' : (q : Int) < 6 := by omega
                  have hmi : ol.getD i 0 ∈ ol := by rw [List.getD_eq_getElem?_getD, List.getElem?_eq_getElem h1]; exact List.getElem_mem h1
                  have hmq : ol.getD q 0 ∈ ol := by rw [List.getD_eq_getElem?_getD, List.getElem?_eq_getElem g1]; exact List.getElem_mem g1
                  obtain ⟨a, ha, hTa⟩ := F12.out _ hmi
                  obtain ⟨b, hbe, hTb⟩ := F12.out _ hmq
                  obtain ⟨x, ev, hXE⟩ := SB.out a b hTa hTb
                  obtain ⟨og, rfl, hogl, hoc1⟩ := KO12.out i h1
                  obtain ⟨og', he', -, hoc2⟩ := KO12.out q g1
                  simp only [Option.some.injEq, Addr.mk.injEq, and_true] at he'
                  subst he'
                  obtain ⟨ng, no, rfl, hngl, hnc1⟩ := KN.out i h1
                  obtain ⟨ng', no', he', -, hnc2⟩ := KN.out q g1
                  simp only [Option.some.injEq, Addr.mk.injEq, and_true] at he'
                  obtain ⟨rfl, rfl⟩ := he'
                  rw [ha, F13.out a hTa] at hnc1
                  rw [hbe, F13.out b hTb] at hnc2
                  rw [ha] at hoc1
                  rw [hbe] at hoc2
                  obtain ⟨pa, hpa⟩ : ∃ pa, npl M T a = pa := ⟨_, rfl⟩
                  obtain ⟨pb, hpb⟩ : ∃ pb, npl M T b = pb := ⟨_, rfl⟩
                  rw [hpa, hpb] at hXE
                  rw [hpa, show ((pa * 2 : Nat) : Int) = (pa : Int) * 2 by omega] at hnc1
                  rw [hpb, show ((pb * 2 : Nat) : Int) = (pb : Int) * 2 by omega] at hnc2
                  rw [show ((a * 2 : Nat) : Int) = (a : Int) * 2 by omega] at hoc1
                  rw [show ((b * 2 : Nat) : Int) = (b : Int) * 2 by omega] at hoc2
                  have HN1 := Lib.hid hnc1; have HN2 := Lib.hid hnc2
                  have hoc1 := (hbx.cell (p := ⟨og, i, none⟩) hogl).trans hoc1
                  have hoc2 := (hbx.cell (p := ⟨og, q, none⟩) hogl).trans hoc2
                  have hsx := hbx.size
                  have hogx : og < wx.heap.size := by omega
                  have hiI : (i : Int) < ol.length := by omega
                  have hqI : (q : Int) < ol.length := by omega
                  have hi0 : 0 ≤ (i : Int) := by omega
                  have hq0 : 0 ≤ (q : Int) := by omega
                  have X1 := Lib.hid (fun W (hW : Below wx.heap.size wx W) => (hXE W (HBX.out.trans (hW.mono HBX.out.size))).1)
                  have HXE := Lib.hid hXE
                  have hxx : (x != x) = false := by simp
                  have hee : (ev != ev) = false := by simp
                  clear hbx hmi hmq ha hbe hTa hTb hpa hpb hnc1 hnc2 hXE
                  go_upto_region 24 with fail
                  all_goals try (exfalso; go_light; omega)
                  (refine wp_region_later (by kernel_rfl) (by kernel_rfl) ?_; (repeat (go_big_quiet_step (((go_at_call 17; with_reducible exact calls_later_if X1.out))))); refine wpQuiet_nil ?_; intro w15 hw4; have hg := later_elim hw4; clear hw4)
                  have HB15 := Lib.hid (HBX.out.trans (hg.mono HBX.out.size))
                  have hnd1 := (HB15.out.cell (p := ⟨ng, no + i, none⟩) hngl).trans HN1.out
                  have hnd2 := (HB15.out.cell (p := ⟨ng, no + q, none⟩) hngl).trans HN2.out
                  have hs15 := HB15.out.size
                  have hngx : ng < w15.heap.size := by omega
                  have X2 := Lib.hid (fun W (hW : Below w15.heap.size w15 W) => (HXE.out W (HB15.out.trans (hW.mono HB15.out.size))).2)
                  clear hg hoc1 hoc2 X1
                  go_upto_region 25 with fail
                  (refine wp_region_later (by kernel_rfl) (by kernel_rfl) ?_; (repeat (go_big_quiet_step (((go_at_call 17; with_reducible exact calls_later_if X2.out))))); refine wpQuiet_nil ?_; intro w16 hw4; have hg := later_elim hw4; clear hw4)
                  have HB16 := Lib.hid (HB15.out.trans (hg.mono HB15.out.size))
                  clear hg hnd1 hnd2 X2
                  go_wp2_with fail
                  all_goals try (exfalso; go_light; omega)
                  go_roundg (7 - (q + 1))
                  case measure => rw [HGQ.out]; omega
                  case rel => exact ⟨q + 1, rfl, by omega, by omega, by go_num, HB16.out⟩
                · have hor : ¬ (q : Int) < ol.length ∨ ((q : Int) < ol.length ∧ ¬ (q : Int) < 6) := by omega
                  clear hbx hgoq
                  rcases hor with h3 | ⟨h3, h4⟩
                  all_goals
                    go_wp2_with fail
                    all_goals try (exfalso; go_light; omega)
                    go_roundg (7 - (i + 1))
                    case measure => rw [HGI.out]; omega
                    case rel => exact ⟨i + 1, rfl, by omega, by omega, by go_num, HBX.out⟩
            · have hor : ¬ (i : Int) < ol.length ∨ ((i : Int) < ol.length ∧ ¬ (i : Int) < 6) := by omega
              clear hgo
              rcases hor with h3 | ⟨h3, h4⟩
              all_goals
                have HHr := Lib.hid (HH12.out.later hb)
                have FI := Lib.hid (first_any _ h 200 (2 + k) S2 M2 wi HHr.out (by omega) F7.out (tab_later HT.out BR.out))
                have AF := Lib.hid (fun W (hW : Below wi.heap.size wi W) (q : Nat) (hq : S2 q = true) (hqN : q < 200) => after_any _ h 200 (2 + k) q S2 M2 W (HHr.out.later hW) (by omega) F7.out hq hqN (tab_later (tab_later HT.out BR.out) hW))
                clear hb
                go_wp2_with fail
                all_goals try (exfalso; go_light; omega)
                refine FI.out.mono ?_
                rintro e w20 ⟨x0, rfl, hx0, hg20⟩
                have HX0 := Lib.hid hx0; have HG20 := Lib.hid hg20
                clear hx0 hg20 FI
                go_wp2_with fail
                go_loopg [27, 28] 201 (fun gg s27 s28 wx => ∃ c x : Nat, s27 = .int .i64 (c : Int) ∧ s28 = .int .u64 (x : Int) ∧ Below wi.heap.size wi wx ∧ c ≤ 200 ∧ ((x = 0 ∧ c = ol.length) ∨ ∃ q : Nat, x = q * 2 ∧ q < 200 ∧ S2 q = true ∧ c = cs q ∧ 200 - q ≤ gg))
                case atStart =>
                  refine ⟨0, x0, rfl, rfl, HG20.out, by omega, ?_⟩
                  rcases CN.out 0 x0 (by omega) HX0.out with ⟨h1, h2⟩ | ⟨q, h1, h2, h3, h4, h5⟩
                  · exact Or.inl ⟨h1, by rw [← CE.out, h2, C0.out]⟩
                  · exact Or.inr ⟨q, h1, h2, h4, by rw [h5, C0.out], by omega⟩
                case round =>
                  obtain ⟨c, x, rfl, rfl, hbx, hcb, hcase⟩ := hrel
                  obtain ⟨wy, hwy⟩ : ∃ z, z = wr := ⟨_, rfl⟩
                  subst hwy
                  have HBX := Lib.hid hbx
                  have BY := Lib.hid (BR.out.trans (hbx.mono BR.out.size))
                  rcases hcase with ⟨rfl, rfl⟩ | ⟨q, rfl, hq, hqS, hcq, hgq⟩
                  · clear hbx
                    go_wp2_with fail
                    all_goals try (exfalso; go_light; omega)
                    go_ret
                    exact ⟨by simp, BY.out⟩
                  · have hq0 : ¬ (q : Int) * 2 = 0 := by
                      have : q ≠ 0 := fun e => by subst e; rw [F7.out] at hqS; cases hqS
                      omega
                    have AFq := Lib.hid (AF.out wy hbx q hqS hq)
                    have HGQ := Lib.hid hgq
                    have HCS := Lib.hid (show c + 1 = cs (q + 1) by rw [CS.out q hqS, hcq])
                    have hcb2 : c + 1 ≤ 200 := by have h1 := CB.out (q + 1) (by omega); have h2 := HCS.out; omega
                    clear hbx hqS hcq hgq
                    rw [show ((q * 2 : Nat) : Int) = (q : Int) * 2 by omega]
                    have hq1 : ((q : Int) * 2 == 0) = false := by simp; omega
                    have hq2 : ((q : Int) * 2 != 0) = true := by simp; omega
                    go_wp2_with fail
                    all_goals try (exfalso; go_light; omega)
                    refine AFq.out.mono ?_
                    rintro e w22 ⟨x2, rfl, hx2, hg22⟩
                    have HBX2 := Lib.hid (HBX.out.trans (hg22.mono HBX.out.size))
                    have HX2 := Lib.hid hx2
                    clear hg22 hx2 AFq
                    go_wp2_with fail
                    go_roundg (200 - (q + 1))
                    case measure => have := HGQ.out; omega
                    case rel =>
                      refine ⟨c + 1, x2, by go_num, rfl, HBX2.out, hcb2, ?_⟩
                      rcases CN.out (q + 1) x2 (by omega) HX2.out with ⟨h1, h2⟩ | ⟨q2, h1, h2, h3, h4, h5⟩
                      · exact Or.inl ⟨h1, by rw [← CE.out, h2, HCS.out]⟩
                      · exact Or.inr ⟨q2, h1, h2, h4, by rw [h5, HCS.out], by omega⟩
theorem own : ownKnob Tryd.prog.godebug = none := by kernel_rfl
theorem laidOut : laidOutB Tryd.prog = true := by kernel_rfl
set_option maxRecDepth 100000 in
theorem lifted (os : Os) (started : os.Started) (H : Type) (enc : TypeId × Value → H) :
    ReturnsInHanded {} Tryd.checked os 3 .any (fun w args => (Rows.foundlingReachedSpec.pre enc Tryd.prog Tryd.f3 Rows.foundlingReachedRow.domain false w args ∧ laidMet Tryd.prog Rows.foundlingReachedRow.laid w) ∧ sizedMet enc Tryd.prog Tryd.f3 (OpenSpec.ofChange Rows.foundlingReachedSpec) false w args)
      (Rows.foundlingReachedSpec.post enc Tryd.prog Tryd.f3 false true false false) := by
  refine returnsInHanded_of_change_and (C := Tryd.checked) (X := fun w _ => laidMet Tryd.prog Rows.foundlingReachedRow.laid w) (fun _ _ _ hh h => h.of_heap hh) own started (by kernel_rfl) Tryd.func3
    (ChangeSpec.witness_at (enc := enc) (C := Tryd.checked) (os := os) (X := fun w _ => laidMet Tryd.prog Rows.foundlingReachedRow.laid w) false (laidWorld os) #[.agg #[.slice none 0 0, .slice none 0 0], .slice none 0 0] 8 rfl (by kernel_rfl) (by kernel_rfl) (by kernel_rfl) (by kernel_rfl) (by kernel_rfl) (laid_met os _)) ?_
  intro W base args ds gs before hval0 hW hcnd hsz0 hL _
  have hval : ∀ (j : Nat) t v, Tryd.f3.params[j]? = some t → args[j]? = some v → Value.okWide Tryd.prog W .any base t v := hval0
  have hW' := hW
  obtain ⟨p, q, hA0, hV, rfl, hfz, hnd⟩ := hW
  have hA : DataW.TrodAll enc Tryd.prog W 0 (fun _ => true) true Tryd.f3.params.toList args.toList ds p := hA0
  rw [Tryd.params3] at hA hval
  obtain ⟨v0, vs0, d0, ds0, p0, q0, hargs, rfl, rfl, h0, r0⟩ := trodAll_cons hA
  obtain ⟨v1, vs1, d1, ds1, p1, q1, rfl, rfl, rfl, h1, r1⟩ := trodAll_cons r0
  obtain ⟨rfl, rfl, rfl⟩ := trodAll_nil r1
  obtain rfl : args = #[v0, v1] := by cases args; simp_all
  obtain ⟨rfl, rfl⟩ := trodVars_none hV
  have k0 := h0
  have lt0 : ∀ x ∈ p0, x.block < W.heap.size := by obtain ⟨m, hm⟩ := k0; exact DataW.trod_lt m _ _ _ hm
  have k1 := h1
  have lt1 : ∀ x ∈ p1, x.block < W.heap.size := by obtain ⟨m, hm⟩ := k1; exact DataW.trod_lt m _ _ _ hm
  obtain ⟨kv, gv, ks, ls, rfl, hk, hg, hls⟩ := open_graph (hval 0 25 v0 rfl rfl) h0
  obtain ⟨l1, hl1⟩ := open_nums Tryd.underlying23 Tryd.underlying48 (by kernel_rfl) (hval 1 23 v1 rfl rfl) h1
  obtain ⟨xs, hx, hxs⟩ := words_of_nums hl1
  have hT := tab_of_laid hL
  clear hA0 hval0
  refine (walk kv gv v1 ks ls xs W hk hg hls hx hxs hT).mono fun e W' ⟨he, bel⟩ => ?_
  subst he
  exact ⟨_, rfl, _, _, _, [], _, [], hW', trodAll_mk1 (shut_bool Tryd.underlying4 _), (trodAll_cons_mk (Below.trod laidOut (by kernel_rfl) (of_decide_eq_true (by kernel_rfl)) k0 bel lt0) (trodAll_cons_mk (Below.trod laidOut (by kernel_rfl) (of_decide_eq_true (by kernel_rfl)) k1 bel lt1) trodAll_mk0)), rfl, bel.frame _, fun h => by cases h⟩
theorem over : Rows.foundlingReachedRow.holds Tryd.pinned (OpenSpec.ofChange Rows.foundlingReachedSpec) :=
  OpenClaim.holds_of_wide 3 Tryd.f3 rfl rfl rfl rfl rfl rfl rfl ⟨rfl, rfl, rfl, rfl, rfl⟩ rfl rfl rfl rfl rfl (by kernel_rfl) Tryd.func3 (by kernel_rfl)
    (of_decide_eq_true (by kernel_rfl)) (by unfold Func.isWrapper; rw [if_neg (by decide +kernel)]; exact ⟨rfl, rfl⟩)
    (fun os started H enc _ => lifted os started H enc)
theorem proved : Rows.FoundlingReachedCardSaid :=
  Claim7.holds_tied_plain_at .later [] [.data] true (true, "2bfd3325b18338b1a843f393c3323a8e76af83e533ae781857a8cea369f6755a") false
    over (fun _ h => by cases h) (by kernel_rfl) (fun _ h => by cases h) foundlingReached_row_tie rfl ⟨rfl, rfl⟩ (by kernel_rfl) rfl
    (fun f fn hf hfn => by
      obtain rfl : f = 3 := Option.some.inj ((show Tryd.prog.funcNamed "foundling/foundlingtop.FoundlingReached" = some 3 by kernel_rfl).symm.trans hf) |>.symm
      obtain rfl : fn = Tryd.f3 := (Option.some.inj (Tryd.func3.symm.trans hfn)).symm
      exact ⟨by kernel_rfl, fun j t ht => by
        have hall : (Tryd.f3.params.all fun t => !Tryd.prog.wantsStandIn t) = true := by kernel_rfl
        rw [Array.all_eq_true_iff_forall_mem] at hall
        have := hall t (Array.mem_of_getElem? ht)
        show Tryd.prog.wantsStandIn t = false
        simpa using this⟩)
    (by kernel_rfl)
end Go.Proofs.YtffbhocgjpdjpaaDoor.foundlingReached
