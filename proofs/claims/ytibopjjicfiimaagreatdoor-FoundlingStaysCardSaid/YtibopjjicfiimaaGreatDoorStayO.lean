/- Steps of the law that lays a town's memory. A town and its changes, as they came in: what their cells are. -/
import Derived.Test.YtibopjjicfiimaaGreatDoorTownN
import Derived.Test.YtibopjjicfiimaaGreatDoorSoK
import Derived.Test.YtibopjjicfiimaaGreatDoorTownG
import Derived.Test.YtibopjjicfiimaaGreatDoorSched
import Derived.Laws.ResultCell
import Derived.Laws.Rows
import Derived.Test.YtibopjjicfiimaaGreatDoorLayOpen
import Derived.Test.YtibopjjicfiimaaGreatDoorStayL
import Derived.Test.YtibopjjicfiimaaGreatDoorTownI
import Derived.Deep.Slices
import Derived.OpenShut
namespace Go.Proofs.YtibopjjicfiimaaGreatDoor
open Go.RowKit Go.Maps
set_option linter.unusedVariables false
@[go_sem high] theorem run_max_three {P : Program} (w : World) (ts : Array TypeId) (t : TypeId) (k k' k2 : IntKind) (x y z : Int) :
    (Builtin.max_ ts t #[.int k x, .int k' y, .int k2 z]).run P w = .ok (.int k (max (max x y) z)) w := by
  have e : (if y > x then y else x) = max x y := by
    rw [Int.max_def]
    split <;> split <;> omega
  have e2 : (if z > max x y then z else max x y) = max (max x y) z := by
    rw [Int.max_def (max x y) z]
    split <;> split <;> omega
  simp [Builtin.max_, Builtin.max2, e, e2]
/-- a row of numbers that came in -/
def IntsIn (w : World) (a : Option Addr) (n : Nat) : Prop := ∀ i, i < n → ∃ (b o : Nat) (v : Int), a = some ⟨b, o, none⟩ ∧ b < w.heap.size ∧ (-9223372036854775808 ≤ v ∧ v < 9223372036854775808) ∧ w.cell? ⟨b, o + i, none⟩ = some (.int .i64 v)
theorem MapS.block' {E : TypeId} {w w' : World} {b : Nat} (h : MapS E (w.alloc (.map #[] 0)) w.heap.size (fun _ => none) 0) (hb : w'.heap[b]? = some (.map #[] 0)) : MapS E w' b (fun _ => none) 0 := by
  obtain ⟨D, ⟨es, clock, h1, h3⟩, h2⟩ := h
  have := heap_alloc_new w (.map #[] 0)
  rw [this] at h1
  simp only [Option.some.injEq, Obj.map.injEq] at h1
  obtain ⟨rfl, rfl⟩ := h1
  exact ⟨D, ⟨_, _, hb, h3⟩, h2⟩
def ownN (i : Nat) : ByteArray := ⟨#[79, 119, 110]⟩ ++ Utf8.encode (97 + (i : Int))
theorem ownN_ok (i : Nat) (h : i < 6) : 0 < (ownN i).size % 8 ∧ (ownN i).size ≤ 24 := by
  match i, h with
  | 0, _ => decide
  | 1, _ => decide
  | 2, _ => decide
  | 3, _ => decide
  | 4, _ => decide
  | 5, _ => decide
theorem numSl_made (w : World) (n C : Nat) (hC : C ≤ w.heap.size) (hn : n ≤ maxLen) : NumSl (w.alloc (.cells (madeCells #[.int .u64 0] n) 30)) 30 .u64 C 18446744073709551616 n (.slice (some ⟨w.heap.size, 0, none⟩) n n) := by
  refine ⟨_, n, rfl, Nat.le_refl _, hn, (fun h => by cases h), Or.inr ⟨w.heap.size, rfl, hC, _, heap_alloc_new w _, fun i hi => ⟨0, by decide, ?_⟩⟩⟩
  have h1 := (World.rowIs_made w (.int .u64 0) n 30).cell hi
  rw [cellO (heap_alloc_new w _) i] at h1
  exact h1
theorem Twn.root {w : World} {C P sb ln lc r : Nat} {la : Option Addr} {L : List Sg} (h : Twn C P sb w la ln lc r L) (x : Nat) : Twn C P sb (w.setCell ⟨P, 4, none⟩ (.int .u64 (x : Int))) la ln lc x L := by
  refine ⟨h.hP, heap_setCell_same _ _ 4 _ _ (.int .u64 (x : Int)) h.blk, h.lst.keep (SameT.kp fun b c T hb hT => Below.heap_setCell _ _ _ _ fun e => ?_), h.fit⟩
  have e : b = P := e
  subst e
  have := h.blk
  rw [hb] at this
  simp only [Option.some.injEq, Obj.cells.injEq] at this
  obtain ⟨-, rfl, -⟩ := this
  rcases hT with h | h | h <;> exact absurd h (by decide)
/-- so many classes are laid, in a map by their names -/
structure ClsAt (C P sb mb : Nat) (nms : List ByteArray) (U i : Nat) (W : World) (L : List Sg) (fc : List UInt8 → Option Nat) (n : Nat) : Prop where
  twn : ∃ la ln lc, Twn C P sb W la ln lc 4 L
  us : usedS L ≤ U + 7 * i
  map : MapS 30 W mb fc n
  hn : n ≤ i
  val : ∀ s v, fc s = some v → IsK L 0 5 v
  key : ∀ s ∈ nms.take i, (fc s.data.toList).isSome = true
  sz : ∀ s v, fc s = some v → 0 < s.length % 8 ∧ s.length ≤ 24
theorem cls_add (C P sb mb : Nat) (nms : List ByteArray) (U i n : Nat) (wr : World) (L : List Sg) (fc : List UInt8 → Option Nat) (h : ClsAt C P sb mb nms U i wr L fc n) (hi : i < nms.length) (hnm : ∀ s ∈ nms, 0 < s.size % 8 ∧ s.size ≤ 24) (hU : U + 7 * (i + 1) ≤ 3000) (hi2 : i ≤ 1000) (hC : C ≤ mb) (x0 : ByteArray) (hx0 : nms[i] = x0) :
    Calls Tryz.prog 12 #[.pointer (some ⟨P, 0, none⟩), .int .i64 0, .slice (some ⟨wr.heap.size, 0, none⟩) 5 5, .slice none 0 0] ((wr.alloc (.cells (madeCells #[.int .u64 0] 5) 30)).drew) fun e w5 => ∃ x : Nat, e = .returned (.int .u64 (x : Int)) ∧ Fr (fun q => q = P) wr w5 ∧
      ∃ w9, (Instr.mapUpdate 50 (.map (some mb)) (.string x0) (.int .u64 (x : Int))).run Tryz.prog w5 = .ok () w9 ∧ (∃ L' fc' n', ClsAt C P sb mb nms U (i + 1) w9 L' fc' n' ∧ L ⊆ L') ∧ Fr (fun q => q = P ∨ q = mb) wr w9 ∧ Below C wr w9 := by
  subst hx0
  obtain ⟨⟨la, ln, lc, k1⟩, k2, k3, k4, k5, k6, k7⟩ := h
  have gW : Below wr.heap.size wr (wr.alloc (.cells (madeCells #[.int .u64 0] 5) 30)).drew := ((Below.refl _ _).alloc (Nat.le_refl _) _).drew
  have hCw : C ≤ wr.heap.size := Nat.le_of_lt (Nat.lt_of_le_of_lt k1.hP k1.lt)
  have hc5 : ∀ a : Nat, cellsS (a, 0, 5) = 5 := fun a => rfl
  refine (tadd_any C P sb la ln lc 4 L _ (k1.later gW) 0 5 (.slice (some ⟨wr.heap.size, 0, none⟩) 5 5) (.slice none 0 0) [] (by omega) ((numSl_made wr 5 C hCw (by decide)).keepWN (KpN.refl _)) (bytes_none _) rfl (by omega) (by rw [hc5]; omega)).mono ?_
  rintro e w5 ⟨x, la', lc', rfl, hx, ht, hf, hb⟩
  have f5 : Fr (fun q => q = P) wr w5 := (Fr.below gW).trans hf
  have b5 : Below C wr w5 := (gW.mono hCw).trans hb
  obtain ⟨es, cl, hm⟩ := k3.mapBlk
  have hmP : mb ≠ P := by
    intro e
    have := k1.blk
    rw [← e, hm] at this
    simp at this
  have hfit := k1.fit
  have hmem : nms[i] ∈ nms := List.getElem_mem hi
  have hm5 : MapS 30 w5 mb fc n := k3.block ((f5.map hm hmP).trans hm.symm)
  obtain ⟨w9, hrun, hm9, hg9⟩ := hm5.store (T := 50) (s := nms[i]) (y := x) Tryz.underlying50 Tryz.underlying30 (by have := (hnm _ hmem).2; unfold maxLen; omega) (by omega) (by omega)
  obtain ⟨es5, cl5, hmb5⟩ := hm5.mapBlk
  refine ⟨x, rfl, f5, w9, hrun, ⟨_, _, _, ⟨⟨la', _, lc', ht.map hmb5 hg9⟩, ?_, hm9, by omega, ?_, ?_, ?_⟩, sub_snoc _ _⟩, ?_, ?_⟩
  · rw [usedS_snoc, hc5]; omega
  · intro s v hv
    unfold updS at hv
    split at hv
    · simp only [Option.some.injEq] at hv
      subst hv
      exact ⟨usedS L, List.mem_append_right _ (List.mem_singleton.2 rfl), hx⟩
    · exact (k5 s v hv).mono (sub_snoc _ _)
  · intro s hs
    rw [List.take_succ_eq_append_getElem hi] at hs
    unfold updS
    split
    · rfl
    · rename_i hne
      rcases List.mem_append.1 hs with hs | hs
      · exact k6 s hs
      · rw [List.mem_singleton.1 hs] at hne
        exact absurd rfl hne
  · intro s v hv
    unfold updS at hv
    split at hv
    · rename_i he
      have h1 := hnm _ hmem
      have h2 : s = (nms[i]).data.toList := by simpa using he
      rw [h2, len_baT]
      exact h1
    · exact k7 s v hv
  · exact (f5.mono fun q hq => Or.inl hq).trans (Fr.grown hg9 fun q hq => Or.inr (by simpa using hq.symm))
  · exact b5.grown hg9 (by have := b5.size; omega) (fun q hq => by simp at hq; omega)
/-- a class's pointer, by its number -/
def rootV (d : LD) (k : Nat) : Nat := (d.fc (d.nm.getD k ByteArray.empty).data.toList).getD 0
theorem rootV_k {d : LD} (g : Good d) {k : Nat} (hk : k < d.nm.length) : IsK d.L0 0 5 (rootV d k) := by
  have hmem : d.nm[k] ∈ d.nm := List.getElem_mem hk
  obtain ⟨x, hx⟩ := Option.isSome_iff_exists.1 (g.hcl _ hmem)
  have e : d.nm.getD k ByteArray.empty = d.nm[k] := by rw [List.getD_eq_getElem?_getD, List.getElem?_eq_getElem hk]; rfl
  unfold rootV
  rw [e, hx]
  exact g.cls _ _ hx
theorem droot_is (d : LD) (W : World) (g : Good d) (hs : Sta d W) (i : Int) (k : Nat) (hi : i = (k : Int) + 5) (hk : k < d.nm.length) :
    Calls Tryz.prog 13 #[.int .i64 i, .pointer (some ⟨d.T7, 0, none⟩), .pointer (some ⟨d.T5, 0, none⟩)] W fun e W' => e = .returned (.int .u64 (rootV d k : Int)) ∧ Below W.heap.size W W' := by
  have hmem : d.nm[k] ∈ d.nm := List.getElem_mem hk
  obtain ⟨x, hx⟩ := Option.isSome_iff_exists.1 (g.hcl _ hmem)
  obtain ⟨cur, r1, r2⟩ := hs.row
  have hn := (g.names _ hmem).2
  have e : d.nm.getD k ByteArray.empty = d.nm[k] := by rw [List.getD_eq_getElem?_getD, List.getElem?_eq_getElem hk]; rfl
  have ex : rootV d k = x := by unfold rootV; rw [e, hx]; rfl
  rw [ex]
  exact troot_any d.cb d.nb d.T7 d.T5 d.nm.length d.nc d.ncl k x d.nm[k] d.fc i W hi hs.t7 hs.t5 hk (by have := g.len.2; omega) ((cellO r1 k).trans (r2 k hk)) (by unfold maxLen; omega) hs.mc hx
/-- some round of the loop over the names -/
structure Rnd (d : LD) (w0 W : World) (U N m nf : Nat) (L : List Sg) : Prop where
  sta : Sta d W
  dyn : Dyn d W U N L
  lst : Lst d W L m
  fmt : ∃ n, MapW W d.fb n ∧ n ≤ nf
  fr : Fr d.may w0 W
  bel : Below d.C w0 W
theorem Rnd.later {d : LD} {w0 W W' : World} {U N m nf : Nat} {L : List Sg} (h : Rnd d w0 W U N m nf L) (g : Good d) (hb : Below W.heap.size W W') : Rnd d w0 W' U N m nf L := by
  obtain ⟨n, h4, h5⟩ := h.fmt
  exact ⟨h.sta.later g hb, h.dyn.later hb, h.lst.later hb, ⟨n, h4.block (hb.block d.fb h4.lt), h5⟩, h.fr.trans (Fr.below hb), h.bel.trans (hb.mono h.dyn.ge)⟩
theorem Rnd.weak {d : LD} {w0 W : World} {U N m nf nf' : Nat} {L : List Sg} (h : Rnd d w0 W U N m nf L) (hn : nf ≤ nf') : Rnd d w0 W U N m nf' L := by
  obtain ⟨n, h4, h5⟩ := h.fmt
  exact ⟨h.sta, h.dyn, h.lst, ⟨n, h4, by omega⟩, h.fr, h.bel⟩
theorem Rnd.fbm {d : LD} {w0 W : World} {U N m nf : Nat} {L : List Sg} (h : Rnd d w0 W U N m nf L) : ∃ es cl, W.heap[d.fb]? = some (.map es cl) := by
  obtain ⟨n, h4, -⟩ := h.fmt
  exact h4.mapBlk
theorem Rnd.geE {d : LD} {w0 W : World} {U N m nf : Nat} {L : List Sg} (h : Rnd d w0 W U N m nf L) (hE : d.E ≤ w0.heap.size) : d.E ≤ W.heap.size := Nat.le_trans hE h.bel.size
theorem rnd_list {d : LD} {w0 W : World} {U N m nf : Nat} {L : List Sg} (g : Good d) (h : Rnd d w0 W U N m nf L) (hE : d.E ≤ w0.heap.size) (hm : m ≤ 1000) (hu : U + 2 ≤ 3000) :
    Calls Tryz.prog 14 #[.pointer (some ⟨d.T4, 0, none⟩), .pointer (some ⟨d.T15, 0, none⟩)] W fun e W' => ∃ (x : Nat) (L' : List Sg), e = .returned (.int .u64 (x : Int)) ∧ x < 18446744073709551616 ∧ L ⊆ L' ∧ Rnd d w0 W' (U + 2) N (m + 1) nf L' ∧ IsP L' x ∧ W'.heap[d.fb]? = W.heap[d.fb]? ∧ KpN W W' ∧ Below d.C W W' := by
  refine (dlist_any d W U N m L g h.sta h.dyn h.lst (h.geE hE) hm hu).mono ?_
  rintro e W' ⟨x, L', rfl, hx, hx64, hsub, hd, hl, hf, hk, hb⟩
  obtain ⟨es, cl, hfb⟩ := h.fbm
  obtain ⟨la, ln, lc, fs, ns, k1, -⟩ := h.dyn.ex
  obtain ⟨lv, ls, l1, -⟩ := h.lst.ex
  have hn : ¬ (d.fb = d.P ∨ d.fb = d.T15 ∨ d.E ≤ d.fb) := by
    rintro (e | e | e)
    · have := k1.blk
      rw [← e, hfb] at this
      simp at this
    · rw [← e, hfb] at l1
      simp at l1
    · have := g.bf.2
      omega
  have hfb' := (hf.map hfb hn).trans hfb.symm
  have hfm : Fr d.may W W' := hf.mono fun q hq => by
    rcases hq with h | h | h
    · exact Or.inl h
    · exact Or.inr (Or.inr (Or.inl h))
    · exact Or.inr (Or.inr (Or.inr (Or.inr h)))
  obtain ⟨n, h4, h5⟩ := h.fmt
  exact ⟨x, L', rfl, hx64, hsub, ⟨h.sta.fr g hfm, hd, hl, ⟨n, h4.block hfb', h5⟩, h.fr.trans hfm, h.bel.trans hb⟩, hx.p, hfb', hk, hb⟩
theorem rnd_sym {d : LD} {w0 W : World} {U N m nf : Nat} {L : List Sg} (g : Good d) (h : Rnd d w0 W U N m nf L) (s : ByteArray) (hN : N ≤ 1000) (hs : 0 < s.size % 8) (hs2 : s.size ≤ 24) (hu : U + 5 ≤ 3000) :
    Calls Tryz.prog 16 #[.pointer (some ⟨d.P, 0, none⟩), .string s] W fun e W' => ∃ (x : Nat) (L' : List Sg), e = .returned (.int .u64 (x : Int)) ∧ x < 18446744073709551616 ∧ L ⊆ L' ∧ Rnd d w0 W' (U + 5) (N + 1) m nf L' ∧ IsP L' x ∧ W'.heap[d.fb]? = W.heap[d.fb]? ∧ KpN W W' ∧ Below d.C W W' := by
  refine (dsym_any d W U N L s h.dyn g.bs.1 hN hs hs2 hu).mono ?_
  rintro e W' ⟨x, L', rfl, hx, hx64, hsub, hd, hf, hk, hb⟩
  obtain ⟨es, cl, hfb⟩ := h.fbm
  obtain ⟨la, ln, lc, fs, ns, k1, k2, -⟩ := h.dyn.ex
  obtain ⟨lv, ls, l1, -⟩ := h.lst.ex
  have hn : ¬ (d.fb = d.P ∨ d.fb = d.sb) := by
    rintro (e | e)
    · have := k1.blk
      rw [← e, hfb] at this
      simp at this
    · exact g.bsf e.symm
  have hfb' := (hf.map hfb hn).trans hfb.symm
  have hfm : Fr d.may W W' := hf.mono fun q hq => by
    rcases hq with h | h
    · exact Or.inl h
    · exact Or.inr (Or.inl h)
  obtain ⟨es2, cl2, hm2⟩ := k2.mapBlk
  have hl := h.lst.fr hf (fun q hq => by
    rcases hq with rfl | rfl
    · exact ⟨g.bP.2.2, g.bP.2.1⟩
    · refine ⟨fun e => ?_, g.bs.2⟩
      rw [← e, hm2] at l1
      simp at l1) hsub
  obtain ⟨n, h4, h5⟩ := h.fmt
  exact ⟨x, L', rfl, hx64, hsub, ⟨h.sta.fr g hfm, hd, hl, ⟨n, h4.block hfb', h5⟩, h.fr.trans hfm, h.bel.trans hb⟩, hx, hfb', hk, hb⟩
theorem Rnd.t4c {d : LD} {w0 W : World} {U N m nf : Nat} {L : List Sg} (h : Rnd d w0 W U N m nf L) : W.cell? ⟨d.T4, 0, none⟩ = some (.pointer (some ⟨d.P, 0, none⟩)) := (cellO h.sta.t4 0).trans rfl
theorem Rnd.t7c {d : LD} {w0 W : World} {U N m nf : Nat} {L : List Sg} (h : Rnd d w0 W U N m nf L) : W.cell? ⟨d.T7, 0, none⟩ = some (.map (some d.cb)) := (cellO h.sta.t7 0).trans rfl
theorem Rnd.lkc {d : LD} {w0 W : World} {U N m nf v : Nat} {L : List Sg} {s : ByteArray} (h : Rnd d w0 W U N m nf L) (hs : s.size ≤ maxLen) (hv : d.fc s.data.toList = some v) : (Instr.lookup 50 (.map (some d.cb)) (.string s) false).run Tryz.prog W = .ok (.int .u64 (v : Int)) W := by
  have := h.sta.mc.look (T := 50) (s := s) Tryz.underlying50 Tryz.underlying30 (by kernel_rfl) hs
  rw [hv] at this
  exact this
theorem Rnd.lkm {d : LD} {w0 W : World} {U N m nf v : Nat} {L : List Sg} {s : ByteArray} (h : Rnd d w0 W U N m nf L) (hs : s.size ≤ maxLen) (hv : d.fm s.data.toList = some v) : (Instr.lookup 50 (.map (some d.mb)) (.string s) false).run Tryz.prog W = .ok (.int .u64 (v : Int)) W := by
  have := h.sta.mm.look (T := 50) (s := s) Tryz.underlying50 Tryz.underlying30 (by kernel_rfl) hs
  rw [hv] at this
  exact this
theorem numSl_five (W : World) (C a0 a1 a2 a3 a4 : Nat) (hC : C ≤ W.heap.size) (h0 : a0 < 18446744073709551616) (h1 : a1 < 18446744073709551616) (h2 : a2 < 18446744073709551616) (h3 : a3 < 18446744073709551616) (h4 : a4 < 18446744073709551616) :
    NumSl (W.alloc (.cells #[.int .u64 (a0 : Int), .int .u64 (a1 : Int), .int .u64 (a2 : Int), .int .u64 (a3 : Int), .int .u64 (a4 : Int)] 30)) 30 .u64 C 18446744073709551616 5 (.slice (some ⟨W.heap.size, 0, none⟩) 5 5) := by
  refine ⟨_, 5, rfl, Nat.le_refl _, by decide, (fun h => by cases h), Or.inr ⟨W.heap.size, rfl, hC, _, heap_alloc_new W _, fun i hi => ?_⟩⟩
  match i, hi with
  | 0, _ => exact ⟨a0, h0, rfl⟩
  | 1, _ => exact ⟨a1, h1, rfl⟩
  | 2, _ => exact ⟨a2, h2, rfl⟩
  | 3, _ => exact ⟨a3, h3, rfl⟩
  | 4, _ => exact ⟨a4, h4, rfl⟩
/-- the map of forms turns -/
theorem Rnd.form {d : LD} {w0 W W' : World} {U N m nf n : Nat} {L : List Sg} (h : Rnd d w0 W U N m nf L) (g : Good d) (hm : MapW W d.fb n) (hn : n ≤ nf) (hm' : MapW W' d.fb (n + 1)) (hg : W.grownBy W' (some d.fb)) : Rnd d w0 W' U N m (nf + 1) L := by
  obtain ⟨es, cl, hb⟩ := hm.mapBlk
  have hf : Fr (fun q => q = d.fb) W W' := Fr.grown hg fun q hq => by simpa using hq.symm
  obtain ⟨la, ln, lc, fs, ns, k1, k2, k3, k4⟩ := h.dyn.ex
  obtain ⟨es2, cl2, hb2⟩ := k2.mapBlk
  have hP : d.P ≠ d.fb := fun e => by
    have := k1.blk
    rw [e, hb] at this
    simp at this
  have hs : d.sb ≠ d.fb := fun e => by
    exact g.bsf e
  refine ⟨h.sta.fr g (hf.mono fun q hq => Or.inr (Or.inr (Or.inr (Or.inl hq)))), h.dyn.keep (kp_map hb hg) (hg.block _ k1.lt (by simpa using hP)) (hg.block _ k2.lt (by simpa using hs)), h.lst.fr hf (fun q hq => ?_) (fun _ h => h), ⟨n + 1, hm', by omega⟩, h.fr.trans (hf.mono fun q hq => Or.inr (Or.inr (Or.inr (Or.inl hq)))), h.bel.grown hg (Nat.le_trans g.bf.1 (Nat.le_of_lt hm.lt)) (fun q hq => by simp at hq; rw [← hq]; exact g.bf.1)⟩
  have hq : q = d.fb := hq
  subst hq
  refine ⟨fun e => ?_, g.bf.2⟩
  obtain ⟨lv, ls, l1, -⟩ := h.lst.ex
  rw [← e, hb] at l1
  simp at l1
/-- the names are laid -/
def NamesAt (w1 : World) (T5 n1 : Nat) (W : World) : Prop := ∃ (nv : Value) (i : Nat) (nms : List ByteArray), nms.length = 16 + i ∧ i ≤ 6 ∧ i ≤ n1 ∧ W.heap[T5]? = some (.cells #[nv] 53 (0, 0)) ∧ W.ownsRow w1.heap.size 9 1 nv (16 + i) (strV nms) ∧ (∀ s ∈ nms, 0 < s.size % 8 ∧ s.size ≤ 24) ∧ Below w1.heap.size w1 W ∧ T5 < W.heap.size
theorem refkernel_any (w : World) : Calls Tryz.prog 11 #[] w fun e w' => ∃ v, e = .returned v ∧ w'.ownsRow w.heap.size 9 1 v 16 (strV knL) ∧ Below w.heap.size w w' := by
  have hx := World.ownsRow_lit (base := w.heap.size) (size := 1) (e := 9) w (strV knL).toArray 16 (Nat.le_refl _) (by decide) rfl
  have hb : Below w.heap.size w (w.alloc (.cells (strV knL).toArray 9)) := (Below.refl _ w).alloc (Nat.le_refl _) _
  have HX := Lib.hid hx; have HB := Lib.hid hb
  clear hx hb
  go_enter Tryz.func11, Tryz.ntmps11
  go_wp2_with fail
  go_ret
  exact ⟨_, rfl, HX.out, HB.out⟩
theorem Rnd.setO {d : LD} {w0 W : World} {U N m nf b i j : Nat} {L : List Sg} {s : Sg} {u : Value} (h : Rnd d w0 W U N m nf L) (g : Good d) (k : AtI d W L b i s) (hd : Dyn d (W.setCell ⟨b, j, none⟩ u) U N L) : Rnd d w0 (W.setCell ⟨b, j, none⟩ u) U N m nf L := by
  obtain ⟨n, h4, h5⟩ := h.fmt
  obtain ⟨es, cl, hm⟩ := h4.mapBlk
  have f : ∀ X, Fr X W (W.setCell ⟨b, j, none⟩ u) := fun X => k.frO h.dyn
  exact ⟨h.sta.fr g (f _), hd, h.lst.fr (f fun _ => False) (fun q hq => hq.elim) (fun _ h => h), ⟨n, h4.block (((f fun _ => False).map hm id).trans hm.symm), h5⟩, h.fr.trans (f _), h.bel.setCell (p := ⟨b, j, none⟩) (k.blk h.dyn).1 u⟩
/-- the town behind its classes: lists are whole -/
structure Rn2 (d : LD) (w0 W : World) (U N : Nat) (L : List Sg) : Prop where
  sta : Sta d W
  dyn : Dyn d W U N L
  fr : Fr (fun q => q = d.P ∨ q = d.sb ∨ w0.heap.size ≤ q) w0 W
  bel : Below d.C w0 W
theorem Rn2.later {d : LD} {w0 W W' : World} {U N : Nat} {L : List Sg} (h : Rn2 d w0 W U N L) (g : Good d) (hb : Below W.heap.size W W') : Rn2 d w0 W' U N L :=
  ⟨h.sta.later g hb, h.dyn.later hb, h.fr.trans (Fr.below hb), h.bel.trans (hb.mono h.dyn.ge)⟩
theorem Rn2.setO {d : LD} {w0 W : World} {U N b i j : Nat} {L : List Sg} {s : Sg} {u : Value} (h : Rn2 d w0 W U N L) (g : Good d) (k : AtI d W L b i s) (hd : Dyn d (W.setCell ⟨b, j, none⟩ u) U N L) : Rn2 d w0 (W.setCell ⟨b, j, none⟩ u) U N L := by
  have f : ∀ X, Fr X W (W.setCell ⟨b, j, none⟩ u) := fun X => k.frO h.dyn
  exact ⟨h.sta.fr g (f _), hd, h.fr.trans (f _), h.bel.setCell (p := ⟨b, j, none⟩) (k.blk h.dyn).1 u⟩
theorem Rn2.t4c {d : LD} {w0 W : World} {U N : Nat} {L : List Sg} (h : Rn2 d w0 W U N L) : W.cell? ⟨d.T4, 0, none⟩ = some (.pointer (some ⟨d.P, 0, none⟩)) := (cellO h.sta.t4 0).trans rfl
theorem Rn2.t7c {d : LD} {w0 W : World} {U N : Nat} {L : List Sg} (h : Rn2 d w0 W U N L) : W.cell? ⟨d.T7, 0, none⟩ = some (.map (some d.cb)) := (cellO h.sta.t7 0).trans rfl
/-- numbers of one's own, pointers all -/
structure RowE (B : Nat) (W : World) (L : List Sg) (v : Value) (ls : List Nat) : Prop where
  own : W.ownsRow B 30 1 v ls.length (wordVals ls)
  small : SmallW ls
  ptr : ∀ x ∈ ls, IsP L x
theorem RowE.nil (B : Nat) (W : World) (L : List Sg) : RowE B W L (.slice none 0 0) [] := ⟨World.ownsRow_nil _ _ _ _, (fun x hx => by cases hx), (fun x hx => by cases hx)⟩
theorem RowE.fr {B : Nat} {W W' : World} {L L' : List Sg} {v : Value} {ls : List Nat} {X : Nat → Prop} (h : RowE B W L v ls) (hf : Fr X W W') (hx : ∀ q, X q → q < B) (hL : L ⊆ L') : RowE B W' L' v ls := by
  obtain ⟨o1, o2⟩ := h.own
  refine ⟨⟨o1, o2.imp id ?_⟩, h.small, fun x hx => (h.ptr x hx).mono hL⟩
  rintro ⟨g, cap, cur, e1, e2, e3, e4⟩
  exact ⟨g, cap, cur, e1, e2, hf.cell e3 (fun hh => by have := hx _ hh; omega) (by decide), e4⟩
theorem RowE.later {B : Nat} {W W' : World} {L : List Sg} {v : Value} {ls : List Nat} (h : RowE B W L v ls) (hb : Below W.heap.size W W') : RowE B W' L v ls :=
  h.fr (X := fun _ => False) (Fr.below hb) (fun q hq => hq.elim) (fun _ h => h)
theorem RowE.num {B C : Nat} {W : World} {L : List Sg} {v : Value} {ls : List Nat} (h : RowE B W L v ls) (hC : C ≤ B) : NumSl W 30 .u64 C 18446744073709551616 ls.length v := numSl_words h.own h.small hC
theorem RowE.slice {B : Nat} {W : World} {L : List Sg} {v : Value} {ls : List Nat} (h : RowE B W L v ls) : ∃ a k c, v = .slice a k c := owns_slice h.own
theorem wordVals_app (a b : List Nat) : wordVals (a ++ b) = wordVals a ++ wordVals b := by simp [wordVals]
/-- behind an append of numbers -/
theorem Rn2.app {d : LD} {w0 W W' : World} {U N B : Nat} {L : List Sg} {v v' : Value} {ls ys : List Nat} (h : Rn2 d w0 W U N L) (g : Good d) (hr : RowE B W L v ls) (hB : w0.heap.size ≤ B) (hE : d.E ≤ B) (hBW : B ≤ W.heap.size)
    (hy : SmallW ys) (hp : ∀ x ∈ ys, IsP L x) (ho : W'.ownsRow B 30 1 v' (ls.length + ys.length) (wordVals ls ++ wordVals ys)) (hg : W.grownBy W' v.ownBlock) (hk : Kp W W') :
    Rn2 d w0 W' U N L ∧ RowE B W' L v' (ls ++ ys) ∧ Fr (fun q => B ≤ q) W W' ∧ KpN W W' ∧ Below B W W' := by
  have hl : ∀ q, v.ownBlock = some q → B ≤ q := fun q hq => (hr.own.lt q hq).1
  have f : Fr (fun q => B ≤ q) W W' := Fr.grown hg hl
  obtain ⟨la, ln, lc, fs, ns, k1, k2, k3, k4⟩ := h.dyn.ex
  have hPE := g.bP
  have hsE := g.bs
  have eP := hg.block d.P k1.lt (fun e => by have := hl _ e.symm; omega)
  have es := hg.block d.sb k2.lt (fun e => by have := hl _ e.symm; omega)
  refine ⟨⟨h.sta.fr g (f.mono fun q hq => ?_), h.dyn.keep hk eP es, h.fr.trans (f.mono fun q hq => ?_), (h.bel.grown hg h.dyn.ge (fun q hq => ?_))⟩, ⟨?_, ?_, ?_⟩, f, hk.num, (Below.refl _ _).grown hg hBW hl⟩
  · have : B ≤ q := hq
    exact Or.inr (Or.inr (Or.inr (Or.inr (by omega))))
  · have : B ≤ q := hq
    exact Or.inr (Or.inr (by omega))
  · have := hl q hq
    have := g.bs
    omega
  · rw [List.length_append, wordVals_app]; exact ho
  · intro x hx
    rcases List.mem_append.1 hx with hx | hx
    · exact hr.small x hx
    · exact hy x hx
  · intro x hx
    rcases List.mem_append.1 hx with hx | hx
    · exact hr.ptr x hx
    · exact hp x hx
theorem rn2_sym {d : LD} {w0 W : World} {U N : Nat} {L : List Sg} (g : Good d) (h : Rn2 d w0 W U N L) (s : ByteArray) (hN : N ≤ 1000) (hs : 0 < s.size % 8) (hs2 : s.size ≤ 24) (hu : U + 5 ≤ 3000) :
    Calls Tryz.prog 16 #[.pointer (some ⟨d.P, 0, none⟩), .string s] W fun e W' => ∃ (x : Nat) (L' : List Sg), e = .returned (.int .u64 (x : Int)) ∧ x < 18446744073709551616 ∧ L ⊆ L' ∧ Rn2 d w0 W' (U + 5) (N + 1) L' ∧ IsP L' x ∧ Fr (fun q => q = d.P ∨ q = d.sb) W W' ∧ KpN W W' ∧ Below d.C W W' := by
  refine (dsym_any d W U N L s h.dyn g.bs.1 hN hs hs2 hu).mono ?_
  rintro e W' ⟨x, L', rfl, hx, hx64, hsub, hd, hf, hk, hb⟩
  refine ⟨x, L', rfl, hx64, hsub, ⟨h.sta.fr g (hf.mono fun q hq => ?_), hd, h.fr.trans (hf.mono fun q hq => ?_), h.bel.trans hb⟩, hx, hf, hk, hb⟩
  · rcases hq with h | h
    · exact Or.inl h
    · exact Or.inr (Or.inl h)
  · rcases hq with h | h
    · exact Or.inl h
    · exact Or.inr (Or.inl h)
theorem rn2_add {d : LD} {w0 W : World} {U N n : Nat} {L : List Sg} {wv : Value} (g : Good d) (h : Rn2 d w0 W U N L) (hw : NumSl W 30 .u64 d.C 18446744073709551616 n wv) (hu : U + 2 + n ≤ 3000) :
    Calls Tryz.prog 12 #[.pointer (some ⟨d.P, 0, none⟩), .int .i64 1, wv, .slice none 0 0] W fun e W' => ∃ (x : Nat) (L' : List Sg), e = .returned (.int .u64 (x : Int)) ∧ x < 18446744073709551616 ∧ L ⊆ L' ∧ Rn2 d w0 W' (U + 2 + n) N L' ∧ IsP L' x ∧ Fr (fun q => q = d.P) W W' ∧ KpN W W' ∧ Below d.C W W' := by
  have hc : cellsS (0, 1, n) = n := rfl
  refine (dadd_any d W U N L 1 n wv (.slice none 0 0) [] h.dyn (by omega) (by simpa using hw) (bytes_none _) rfl (by omega) (by omega)).mono ?_
  rintro e W' ⟨x, L', rfl, hx, hx64, hsub, hd, hf, hk, hb⟩
  rw [hc] at hd
  exact ⟨x, L', rfl, hx64, hsub, ⟨h.sta.fr g (hf.mono fun q hq => Or.inl hq), hd, h.fr.trans (hf.mono fun q hq => Or.inl hq), h.bel.trans hb⟩, hx.p, hf, hk, hb⟩
theorem rn2_at {d : LD} {w0 W : World} {U N v : Nat} {L : List Sg} (h : Rn2 d w0 W U N L) (hv : IsP L v) :
    Calls Tryz.prog 17 #[.pointer (some ⟨d.P, 0, none⟩), .int .u64 (v : Int)] W fun e W' => ∃ b i s, e = .returned (.pointer (some ⟨b, i * 8, none⟩)) ∧ AtI d W L b i s ∧ Below W.heap.size W W' := by
  obtain ⟨⟨a, k, n⟩, hs, e⟩ := hv
  refine (dat_any d W U N L k n v h.dyn ⟨a, hs, e⟩).mono ?_
  rintro e W' ⟨b, i, a', he, ha, hb⟩
  exact ⟨b, i, _, he, ha, hb⟩
theorem Rn2.start {d : LD} {w0 W : World} {U N : Nat} {L : List Sg} (h : Rn2 d w0 W U N L) : Rn2 d W W U N L := ⟨h.sta, h.dyn, Fr.refl _ _, Below.refl _ _⟩
theorem Rn2.cat {d : LD} {w0 W W' : World} {U N U' N' : Nat} {L L' : List Sg} (h : Rn2 d w0 W U N L) (k : Rn2 d W W' U' N' L') : Rn2 d w0 W' U' N' L' :=
  ⟨k.sta, k.dyn, h.fr.trans (k.fr.mono fun q hq => by
    have := h.bel.size
    rcases hq with h | h | h
    · exact Or.inl h
    · exact Or.inr (Or.inl h)
    · exact Or.inr (Or.inr (by omega))), h.bel.trans k.bel⟩
theorem Rn2.pblk {d : LD} {w0 W : World} {U N : Nat} {L : List Sg} (h : Rn2 d w0 W U N L) : ∃ la ln lc fs ns, W.heap[d.P]? = some (.cells #[.int .i64 3000, .slice la ln lc, .int .u32 0, .map (some d.sb), .int .u64 (d.root : Int)] 52 (0, 0)) ∧ TownL d.C W la ln lc L ∧ MapS 30 W d.sb fs ns ∧ PtrM L fs ∧ ns ≤ N ∧ d.P < W.heap.size := by
  obtain ⟨la, ln, lc, fs, ns, h1, h2, h3, h4⟩ := h.dyn.ex
  exact ⟨la, ln, lc, fs, ns, h1.blk, h1.lst, h2, h3, h4, h1.lt⟩
theorem Rn2.p3c {d : LD} {w0 W : World} {U N : Nat} {L : List Sg} (h : Rn2 d w0 W U N L) : W.cell? ⟨d.P, 3, none⟩ = some (.map (some d.sb)) := by
  obtain ⟨la, ln, lc, fs, ns, h1, -⟩ := h.pblk
  exact (cellO h1 3).trans rfl
theorem Rn2.p4c {d : LD} {w0 W : World} {U N : Nat} {L : List Sg} (h : Rn2 d w0 W U N L) : W.cell? ⟨d.P, 4, none⟩ = some (.int .u64 (d.root : Int)) := by
  obtain ⟨la, ln, lc, fs, ns, h1, -⟩ := h.pblk
  exact (cellO h1 4).trans rfl
theorem Rn2.lkc {d : LD} {w0 W : World} {U N v : Nat} {L : List Sg} {s : ByteArray} (h : Rn2 d w0 W U N L) (hs : s.size ≤ maxLen) (hv : d.fc s.data.toList = some v) : (Instr.lookup 50 (.map (some d.cb)) (.string s) false).run Tryz.prog W = .ok (.int .u64 (v : Int)) W := by
  have := h.sta.mc.look (T := 50) (s := s) Tryz.underlying50 Tryz.underlying30 (by kernel_rfl) hs
  rw [hv] at this
  exact this
/-- a list of texts, its cells -/
theorem owns_strs {w : World} {B : Nat} {v : Value} {ts : List ByteArray} (h : w.ownsRow B 9 1 v ts.length (strV ts)) : ∃ a c, v = .slice a ts.length c ∧ ∀ j (hj : j < ts.length), ∃ g cur, a = some ⟨g, 0, none⟩ ∧ B ≤ g ∧ g < w.heap.size ∧ w.heap[g]? = some (.cells cur 9 (0, 0)) ∧ cur[j]? = some (.string ts[j]) := by
  obtain ⟨o1, ⟨hv, h0⟩ | ⟨g, cap, cur, hv, h2, h3, h4, h5, h6, h7⟩⟩ := id h
  · exact ⟨none, 0, by rw [h0]; exact hv, fun j hj => by omega⟩
  · refine ⟨some ⟨g, 0, none⟩, cap, hv, fun j hj => ⟨g, cur, rfl, h2, (Array.getElem?_eq_some_iff.1 h3).1, h3, ?_⟩⟩
    have h8 := strV_get hj
    rw [← h7, List.getElem?_take] at h8
    split at h8
    · rw [← h8]; simp
    · cases h8
theorem Good.nsz {d : LD} (g : Good d) {s : ByteArray} (h : (d.fc s.data.toList).isSome = true) : 0 < s.size % 8 ∧ s.size ≤ 24 := by
  obtain ⟨v, hv⟩ := Option.isSome_iff_exists.1 h
  have := g.clz _ _ hv
  rw [len_baT] at this
  exact this
theorem small_nil : SmallW [] := fun x hx => by cases hx
theorem small_cons {x : Nat} {l : List Nat} (hx : x < 18446744073709551616) (h : SmallW l) : SmallW (x :: l) := fun y hy => by
  rcases List.mem_cons.1 hy with rfl | hy
  · exact hx
  · exact h y hy
theorem ptr_nil (L : List Sg) : ∀ y ∈ ([] : List Nat), IsP L y := fun x hx => by cases hx
theorem ptr_cons {L : List Sg} {x : Nat} {l : List Nat} (hx : IsP L x) (h : ∀ y ∈ l, IsP L y) : ∀ y ∈ x :: l, IsP L y := fun y hy => by
  rcases List.mem_cons.1 hy with rfl | hy
  · exact hx
  · exact h y hy
theorem words_cell {W : World} {b : Nat} {xs : List Nat} (h : W.heap[b]? = some (.cells (wordVals xs).toArray 30 (0, 0))) : ∀ j u, (wordVals xs)[j]? = some u → W.cell? ((⟨b, 0, none⟩ : Addr).add j) = some u := fun j u hj => by
  have := cellO h j
  rw [List.getElem?_toArray, hj] at this
  cases j with
  | zero => simpa [Addr.add] using this
  | succ j => simpa [Addr.add] using this
theorem RowE.frw {B : Nat} {W W' : World} {L L' : List Sg} {v : Value} {ls : List Nat} {X : Nat → Prop} (h : RowE B W L v ls) (hf : Fr X W W') (hx : ∀ q, B ≤ q → q < W.heap.size → ¬ X q) (hL : L ⊆ L') : RowE B W' L' v ls := by
  obtain ⟨o1, o2⟩ := h.own
  refine ⟨⟨o1, o2.imp id ?_⟩, h.small, fun x hx => (h.ptr x hx).mono hL⟩
  rintro ⟨g, cap, cur, e1, e2, e3, e4⟩
  exact ⟨g, cap, cur, e1, e2, hf.cell e3 (hx g e2 (Array.getElem?_eq_some_iff.1 e3).1) (by decide), e4⟩
theorem RowE.shape {B : Nat} {W : World} {L : List Sg} {v : Value} {ls : List Nat} (h : RowE B W L v ls) (hl : 0 < ls.length) : ∃ g cap, v = .slice (some ⟨g, 0, none⟩) ls.length cap ∧ B ≤ g ∧ ∀ W', RowE B W' L v ls → ∀ j (hj : j < ls.length), W'.cell? ⟨g, j, none⟩ = some (.int .u64 (ls[j] : Int)) := by
  obtain ⟨g, cap, hv, hB⟩ := owns_shape h.own hl
  refine ⟨g, cap, hv, hB, fun W' h' j hj => ?_⟩
  subst hv
  obtain ⟨o1, ⟨e, -⟩ | ⟨g', cap', cur, e1, e2, e3, e4, e5, e6, e7⟩⟩ := h'.own
  · cases e
  · simp only [Value.slice.injEq, Option.some.injEq, Addr.mk.injEq, and_true, true_and] at e1
    obtain ⟨rfl, rfl⟩ := e1
    have h8 : (wordVals ls)[j]? = some (.int .u64 (ls[j] : Int)) := by
      unfold wordVals
      rw [List.getElem?_map, List.getElem?_eq_getElem hj]
      rfl
    rw [cellO e3 j]
    rw [← e7, List.getElem?_take] at h8
    split at h8
    · rw [← h8]; simp
    · cases h8
theorem Rn2.app' {d : LD} {w0 W W' : World} {U N B : Nat} {L : List Sg} {v v' : Value} {ls ys : List Nat} (h : Rn2 d w0 W U N L) (g : Good d) (hr : RowE B W L v ls) (hE : d.E ≤ B) (hBW : B ≤ W.heap.size)
    (hy : SmallW ys) (hp : ∀ x ∈ ys, IsP L x) (ho : W'.ownsRow B 30 1 v' (ls.length + ys.length) (wordVals ls ++ wordVals ys)) (hg : W.grownBy W' v.ownBlock) (hk : Kp W W') :
    Rn2 d W' W' U N L ∧ RowE B W' L v' (ls ++ ys) ∧ Fr (fun q => B ≤ q) W W' ∧ KpN W W' ∧ Below B W W' := by
  have hl : ∀ q, v.ownBlock = some q → B ≤ q := fun q hq => (hr.own.lt q hq).1
  have f : Fr (fun q => B ≤ q) W W' := Fr.grown hg hl
  obtain ⟨la, ln, lc, fs, ns, k1, k2, k3, k4⟩ := h.dyn.ex
  have hPE := g.bP
  have hsE := g.bs
  have eP := hg.block d.P k1.lt (fun e => by have := hl _ e.symm; omega)
  have es := hg.block d.sb k2.lt (fun e => by have := hl _ e.symm; omega)
  refine ⟨⟨h.sta.fr g (f.mono fun q hq => ?_), h.dyn.keep hk eP es, Fr.refl _ _, Below.refl _ _⟩, ⟨?_, ?_, ?_⟩, f, hk.num, (Below.refl _ _).grown hg hBW hl⟩
  · have : B ≤ q := hq
    exact Or.inr (Or.inr (Or.inr (Or.inr (by omega))))
  · rw [List.length_append, wordVals_app]; exact ho
  · intro x hx
    rcases List.mem_append.1 hx with hx | hx
    · exact hr.small x hx
    · exact hy x hx
  · intro x hx
    rcases List.mem_append.1 hx with hx | hx
    · exact hr.ptr x hx
    · exact hp x hx
theorem Rn2.bnd {d : LD} {w0 W : World} {U N B : Nat} {L : List Sg} (h : Rn2 d w0 W U N L) (g : Good d) (hE : d.E ≤ B) : ∀ q, q = d.P ∨ q = d.sb → q < B := fun q hq => by
  have h1 := g.bP
  have h2 := g.bs
  rcases hq with rfl | rfl <;> omega
theorem row_zero (W : World) (L : List Sg) : RowE W.heap.size (W.alloc (.cells #[] 30)) L (.slice (some ⟨W.heap.size, 0, none⟩) 0 0) [] :=
  ⟨⟨rfl, Or.inr ⟨W.heap.size, 0, #[], rfl, Nat.le_refl _, heap_alloc_new W _, Nat.le_refl _, by unfold maxLen; omega, rfl, rfl⟩⟩, small_nil, ptr_nil L⟩
/-- a nil's pointer, by its number -/
def nilV (d : LD) (k : Nat) : Nat := if k = 0 then d.n0 else if k = 1 then d.n1 else d.n2
theorem nilV_k {d : LD} (g : Good d) (k : Nat) : IsK d.L0 0 0 (nilV d k) := by
  unfold nilV
  split
  · exact g.nils.1
  · split
    · exact g.nils.2.1
    · exact g.nils.2.2
theorem nilV_c {d : LD} {W : World} (h : Sta d W) (k : Nat) (hk : k < 3) : W.cell? ⟨d.Nb, k, none⟩ = some (.int .u64 (nilV d k : Int)) := by
  rcases (show k = 0 ∨ k = 1 ∨ k = 2 by omega) with rfl | rfl | rfl
  · exact (cellO h.nils 0).trans rfl
  · exact (cellO h.nils 1).trans rfl
  · exact (cellO h.nils 2).trans rfl
theorem results_row_tmp {P : Program} {fn : Func} {p u : Tmp} {ty : TypeId} (h : fn.results = #[.cell p ty, .tmp u]) (tmps : Array Value) (w : World) (g : Nat) (t : TypeId) (cs : Array Value) (fr : Nat × Nat) (d : TypeDesc) (y : Value)
    (hp : tmps.getD p undef = .pointer (some ⟨g, 0, none⟩)) (hy : tmps.getD u undef = y) (hg : w.heap[g]? = some (.cells cs t fr))
    (hu : P.underlying ty = some d) (hd : (match d with | .struct _ | .array _ _ => true | _ => false) = true) (hi : (P.info? ty).map (·.size) = some cs.size) :
    (results fn tmps).run P w = .ok (.tuple #[.agg cs, y]) w := by
  rw [results_cell_tmp h, hp, hy]
  simp [asAddr, Result.andThen, run_loadVar_row w g t ty cs fr d hg hu hd hi]
end Go.Proofs.YtibopjjicfiimaaGreatDoor
namespace Go.Proofs.YtibopjjicfiimaaGreatDoor
open Go.Joins Go.ChangeShapes Go.WideShapes Go.ChangeAt Go.RowKit Go.Deep
set_option linter.unusedVariables false
theorem town_fields : ∃ f0 f1 : Field, Tryz.prog.underlying 24 = some (.struct #[f0, f1]) ∧ oneCellFields Tryz.prog #[f0, f1] = true ∧ f0.type = 22 ∧ f1.type = 22 :=
  ⟨_, _, Tryz.underlying24, by kernel_rfl, rfl, rfl⟩
theorem ints_of_nums {w : World} {v : Value} {l : List Int} (h : NumsAt w .i64 v l) : ∃ a c, v = .slice a l.length c ∧ l.length ≤ maxLen ∧ IntsIn w a l.length := by
  obtain ⟨a, cap, hv, h1, h2, h3, h4⟩ := h
  refine ⟨a, cap, hv, Nat.le_trans h1 h2, fun i hi => ?_⟩
  obtain ⟨b, o, ha, hc, hw⟩ := h4 i hi
  have hb := bounds_i64 hw
  exact ⟨b, o, l[i], ha, lt_of_cell hc, ⟨by omega, by omega⟩, hc⟩
set_option maxRecDepth 100000 in
theorem open_town {H : Type} {enc : TypeId × Value → H} {w : World} {base : Nat} {spare : Nat → Bool} {held : Bool} {r : Reach} {b0 : Nat} {v : Value} {d : DataW H} {p : List MemPlace}
    (hv : Value.okWide Tryz.prog w r b0 24 v) (h : DataW.Trod enc Tryz.prog w base spare held 24 v d p) :
    ∃ (s1 s2 : Option Addr) (n1 c1 n2 c2 : Nat), v = .agg #[.slice s1 n1 c1, .slice s2 n2 c2] ∧ IntsIn w s1 n1 ∧ IntsIn w s2 n2 ∧ n1 ≤ maxLen ∧ n2 ≤ maxLen := by
  obtain ⟨f0, f1, hs, hone, t0, t1⟩ := town_fields
  obtain ⟨cs, rfl, hsz⟩ := okWide_struct hs hv
  have hC : Tryz.prog.cellsOf 24 = 2 := by kernel_rfl
  obtain ⟨l⟩ := cs
  match l, hsz.trans hC with
  | [c0, c1], _ =>
    obtain ⟨fuel, hf⟩ := h
    obtain ⟨xs, n, _, -, -, hlen, hg⟩ := DataW.trod_struct hs hf
    match xs, hlen with
    | [y0, y1], _ =>
      obtain ⟨o0, k0⟩ := hone_of hone 0 f0 rfl
      rw [t0] at k0
      obtain ⟨o1, k1⟩ := hone_of hone 1 f1 rfl
      rw [t1] at k1
      have g0 := hg 0 f0 rfl
      have g1 := hg 1 f1 rfl
      simp [Value.cells, o0, t0, k0] at g0
      simp [Value.cells, o1, t1, k1] at g1
      obtain ⟨v0, l0, e0, n0⟩ := open_nums_at Tryz.underlying22 Tryz.underlying3 (by kernel_rfl) g0
      obtain ⟨v1, l1, e1, n1⟩ := open_nums_at Tryz.underlying22 Tryz.underlying3 (by kernel_rfl) g1
      simp at e0 e1
      subst e0 e1
      obtain ⟨a0, k0', rfl, m0, i0⟩ := ints_of_nums n0
      obtain ⟨a1, k1', rfl, m1, i1⟩ := ints_of_nums n1
      exact ⟨a0, a1, l0.length, k0', l1.length, k1', rfl, i0, i1, m0, m1⟩
theorem change_fields : ∃ f0 f1 f2 f3 : Field, Tryz.prog.underlying 70 = some (.struct #[f0, f1, f2, f3]) ∧ oneCellFields Tryz.prog #[f0, f1, f2, f3] = true ∧
    f0.type = 3 ∧ f1.type = 3 ∧ f2.type = 3 ∧ f3.type = 30 :=
  ⟨_, _, _, _, Tryz.underlying70, by kernel_rfl, rfl, rfl, rfl, rfl⟩
def ChC (cs : List Value) : Prop := ∃ (a b c : Int) (y : Nat), cs = [.int .i64 a, .int .i64 b, .int .i64 c, .int .u64 (y : Int)] ∧ (-9223372036854775808 ≤ b ∧ b < 9223372036854775808) ∧ (-9223372036854775808 ≤ c ∧ c < 9223372036854775808) ∧ y < 18446744073709551616
set_option maxRecDepth 100000 in
theorem open_change {H : Type} {enc : TypeId × Value → H} {w : World} {base : Nat} {spare : Nat → Bool} {held : Bool} {fuel : Nat} {cs : List Value} {x : DataW H × List MemPlace}
    (h : DataW.trod enc Tryz.prog w base spare held fuel 70 cs = some x) : ChC cs := by
  obtain ⟨f0, f1, f2, f3, hs, hone, t0, t1, t2, t3⟩ := change_fields
  have hC : Tryz.prog.cellsOf 70 = 4 := by kernel_rfl
  obtain ⟨xs, n, -, -, hlc, hlen, hg⟩ := DataW.trod_struct hs h
  match cs, hlc.trans hC with
  | [c0, c1, c2, c3], _ =>
    match xs, hlen with
    | [y0, y1, y2, y3], _ =>
      obtain ⟨o0, k0⟩ := hone_of hone 0 f0 rfl
      rw [t0] at k0
      obtain ⟨o1, k1⟩ := hone_of hone 1 f1 rfl
      rw [t1] at k1
      obtain ⟨o2, k2⟩ := hone_of hone 2 f2 rfl
      rw [t2] at k2
      obtain ⟨o3, k3⟩ := hone_of hone 3 f3 rfl
      rw [t3] at k3
      have g0 := hg 0 f0 rfl
      have g1 := hg 1 f1 rfl
      have g2 := hg 2 f2 rfl
      have g3 := hg 3 f3 rfl
      simp [o0, t0, k0] at g0
      simp [o1, t1, k1] at g1
      simp [o2, t2, k2] at g2
      simp [o3, t3, k3] at g3
      obtain ⟨a0, e0, _, w0⟩ := DataW.trod_int Tryz.underlying3 g0
      obtain ⟨a1, e1, _, w1⟩ := DataW.trod_int Tryz.underlying3 g1
      obtain ⟨a2, e2, _, w2⟩ := DataW.trod_int Tryz.underlying3 g2
      obtain ⟨a3, e3, _, w3⟩ := DataW.trod_int Tryz.underlying30 g3
      simp at e0 e1 e2 e3
      subst e0 e1 e2 e3
      have b1 := bounds_i64 w1
      have b2 := bounds_i64 w2
      have b3 := bounds_u64 w3
      obtain ⟨y, rfl⟩ := Int.eq_ofNat_of_zero_le b3.1
      exact ⟨a0, a1, a2, y, rfl, ⟨by omega, by omega⟩, ⟨by omega, by omega⟩, by omega⟩
set_option maxRecDepth 100000 in
theorem open_changes {H : Type} {enc : TypeId × Value → H} {w : World} {base : Nat} {spare : Nat → Bool} {held : Bool} {r : Reach} {b0 : Nat} {v : Value} {d : DataW H} {p : List MemPlace}
    (hv : Value.okWide Tryz.prog w r b0 25 v) (h : DataW.Trod enc Tryz.prog w base spare held 25 v d p) : ∃ a n c, v = .slice a n c ∧ n ≤ maxLen ∧ ChgAt w.heap.size w a n := by
  obtain ⟨a, len, cap, rfl⟩ := okWide_slice Tryz.underlying25 hv
  obtain ⟨fuel, hf⟩ := h
  rcases open_slice Tryz.underlying25 hf with ⟨hcs, -⟩ | ⟨a', len', cap', m, n, D, Pl, hcs, hb, hl, hm, hmm, hx, hi⟩
  · simp [Value.cells] at hcs
    obtain ⟨rfl, rfl, rfl⟩ := hcs
    exact ⟨none, 0, 0, rfl, by unfold maxLen; omega, fun i hi => absurd hi (Nat.not_lt_zero i)⟩
  · simp [Value.cells] at hcs
    obtain ⟨rfl, rfl, rfl⟩ := hcs
    have hC : Tryz.prog.cellsOf 70 = 4 := by kernel_rfl
    rw [hC] at hi
    have hml : len ≤ m := by rw [hmm]; split <;> omega
    have key : ∀ i, i < len → ∃ (ka ta ja : Int) (y : Nat), w.cell? (a'.add (i * 4)) = some (.int .i64 ka) ∧ w.cell? (a'.add (i * 4 + 1)) = some (.int .i64 ta) ∧ w.cell? (a'.add (i * 4 + 2)) = some (.int .i64 ja) ∧ w.cell? (a'.add (i * 4 + 3)) = some (.int .u64 (y : Int)) ∧
        (-9223372036854775808 ≤ ta ∧ ta < 9223372036854775808) ∧ (-9223372036854775808 ≤ ja ∧ ja < 9223372036854775808) ∧ y < 18446744073709551616 := fun i hil => by
      obtain ⟨cs', h1, h2⟩ := hi i (by omega)
      obtain ⟨ka, ta, ja, y, rfl, q1, q2, q3⟩ := open_change h2
      obtain ⟨-, -, hc⟩ := World.cells?_some h1
      have c0 := hc 0 (by omega)
      have c1 := hc 1 (by omega)
      have c2 := hc 2 (by omega)
      have c3 := hc 3 (by omega)
      rw [Go.Deep.add_add] at c0 c1 c2 c3
      exact ⟨ka, ta, ja, y, c0, c1, c2, c3, q1, q2, q3⟩
    refine ⟨some a', len, cap, rfl, Nat.le_trans hl hm, fun i hil => ?_⟩
    obtain ⟨ka, ta, ja, y, c0, c1, c2, c3, q1, q2, q3⟩ := key i hil
    obtain ⟨ka0, ta0, ja0, y0, d0, -⟩ := key 0 (by omega)
    have e := spot_plain (a := a') (by simpa using d0)
    have p0 := cell_plain c0
    exact ⟨a'.block, a'.off, ka, ta, ja, y, congrArg some e, lt_of_cell p0, q1, q2, q3, p0, cell_plain c1, cell_plain c2, cell_plain c3⟩
theorem ints_later {w W : World} {a : Option Addr} {n : Nat} (h : IntsIn w a n) (hb : Below w.heap.size w W) : IntsIn W a n := fun i hi => by
  obtain ⟨b, o, v, ha, hl, hv, hc⟩ := h i hi
  exact ⟨b, o, v, ha, Nat.lt_of_lt_of_le hl hb.size, hv, (hb.cell (p := ⟨b, o + i, none⟩) hl).trans hc⟩
theorem numSl_weak {w : World} {T : TypeId} {q : IntKind} {C C' top n : Nat} {v : Value} (h : NumSl w T q C top n v) (hC : C' ≤ C) : NumSl w T q C' top n v := by
  obtain ⟨a, c, h1, h2, h3, h0, h4⟩ := h
  refine ⟨a, c, h1, h2, h3, h0, h4.imp id ?_⟩
  rintro ⟨b, h5, k0, k1⟩
  exact ⟨b, h5, Nat.le_trans hC k0, k1⟩
theorem townQ_weak {C C' : Nat} {w : World} {la : Option Addr} {ln lc : Nat} (h : TownQ C w la ln lc) (hC : C' ≤ C) : TownQ C' w la ln lc := by
  obtain ⟨os, ⟨h1, h2, h3, h4, b, h5, h6, cur, h7, h8, h9⟩, k⟩ := h
  refine ⟨os, ⟨h1, h2, h3, h4, b, h5, Nat.le_trans hC h6, cur, h7, h8, fun i o ho => ?_⟩, k⟩
  obtain ⟨wv, bv, k1, k2⟩ := h9 i o ho
  exact ⟨wv, bv, ⟨k1.kind, k1.cls, k1.size, numSl_weak k1.words hC, numSl_weak k1.bytes hC⟩, k2⟩
theorem tab_lt {g : Nat} {W : World} (h : TabAt g Lib.deBruijn64tab W) : g < W.heap.size := lt_of_cell (h 0 (by decide))
end Go.Proofs.YtibopjjicfiimaaGreatDoor
