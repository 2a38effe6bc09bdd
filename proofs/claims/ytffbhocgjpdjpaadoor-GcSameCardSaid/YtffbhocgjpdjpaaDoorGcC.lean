/- The law's own map and its closure: which object is which. What an object of the document's list is behind a collection. -/
import Derived.Test.YtffbhocgjpdjpaaDoorOrdR
import Derived.Maps.Own
import Derived.Maps.OwnOps
import Derived.Maps.OwnSet
namespace Go.Proofs.YtffbhocgjpdjpaaDoor
open Go.RowKit Go.Maps
set_option linter.unusedVariables false
theorem u64_wf (a : Nat) (h : a < 18446744073709551616) : (Lit.int .u64 (a : Int)).wf = true := WalkArith.wf_u64 (by omega)
theorem keyLaw : Keyed Tryd.prog 48 := int_keyed Tryd.underlying48
theorem zeroInt (w : World) : (zeroValue 3).run Tryd.prog w = .ok (.int .i64 0) w := by kernel_rfl
/-- the map of the first n places -/
def placeD (H : Type) (f : Nat → Nat) : Nat → DataW H
  | 0 => .map []
  | n + 1 => (placeD H f n).put (.int .u64 (f n : Int)) (.lit (.int .i64 (n : Int)))
section
variable {H : Type} {f : Nat → Nat} {n : Nat}
theorem placeD_map : IsMap (placeD H f n) := by
  induction n with
  | zero => exact isMap_empty
  | succ n ih => exact ih.put _ _
theorem key_ne {a b : Nat} (h : a ≠ b) : Lit.int .u64 (a : Int) ≠ Lit.int .u64 (b : Int) := fun e => h (by injection e with _ e; omega)
theorem keyLit (a : Nat) (ha : a < 18446744073709551616) : WideAt.IsKeyLit (Lit.int .u64 (a : Int)) := keyLaw.key (keyOf_int_mk Tryd.underlying48 (u64_wf a ha))
theorem place_out {y : Nat} (h : ∀ i, i < n → f i ≠ y) : has (placeD H f n) (.int .u64 (y : Int)) = false := by
  induction n with
  | zero => rfl
  | succ n ih =>
    show has ((placeD H f n).put _ _) _ = false
    rw [has_put_other (key_ne (fun e => h n (by omega) e.symm))]
    exact ih fun i hi => h i (by omega)
theorem place_in {i : Nat} (hf : ∀ i, i < n → f i < 18446744073709551616) (hinj : ∀ i j, i < n → j < n → f i = f j → i = j) (hi : i < n) :
    has (placeD H f n) (.int .u64 (f i : Int)) = true ∧ ∀ z, (placeD H f n).atKey (.int .u64 (f i : Int)) z = .lit (.int .i64 (i : Int)) := by
  induction n with
  | zero => omega
  | succ n ih =>
    by_cases he : i = n
    · subst he
      exact ⟨has_put_same placeD_map (keyLit _ (hf i (by omega))) _, fun z => atKey_put_same placeD_map (keyLit _ (hf i (by omega))) _ _⟩
    · obtain ⟨h1, h2⟩ := ih (fun i hi => hf i (by omega)) (fun i j hi hj => hinj i j (by omega) (by omega)) (by omega)
      have hne : f i ≠ f n := fun e => he (hinj i n hi (by omega) e)
      refine ⟨?_, fun z => ?_⟩
      · show has ((placeD H f n).put _ _) _ = true
        rw [has_put_other (key_ne hne)]; exact h1
      · show ((placeD H f n).put _ _).atKey _ z = _
        rw [atKey_put_other (key_ne hne)]; exact h2 z
end
set_option maxRecDepth 100000 in
/-- a word that is no object's: the same behind it -/
theorem same_out {H : Type} (Bm Bo bm n x : Nat) (f : Nat → Nat) (ov : Value) (w : World) (hm : w.heap[Bm]? = some (.cells #[.map (some bm)] 62 (0, 0))) (ho : w.heap[Bo]? = some (.cells #[ov] 33 (0, 0)))
    (hown : w.ownsMap Tryd.prog 48 (plainElem (H := H) Tryd.prog 3) bm n (placeD H f n)) (hx : x < 18446744073709551616) (hout : ∀ i, i < n → f i ≠ x) :
    Calls Tryd.prog 26 #[.int .u64 (x : Int), .int .u64 (x : Int), .pointer (some ⟨Bm, 0, none⟩), .pointer (some ⟨Bo, 0, none⟩)] w fun e w' => e = .returned (.bool true) ∧ Below w.heap.size w w' := by
  have hh := place_out (H := H) hout
  have y0 := cellO hm 0
  have z0 := cellO ho 0
  simp at y0 z0
  have HH := Lib.hid hh; have HOW := Lib.hid hown
  clear hh hm ho hown hout
  go_enter Tryd.func26, Tryd.ntmps26
  go_wp2_with (at_lookup; refine wpList_lookup_own_ok_int _ rfl _ _ 62 rfl 48 3 .i64 keyLaw Tryd.underlying62 Tryd.underlying3 (zeroInt _) bm n (placeD H f n) rfl HOW.out _ _ rfl (keyOf_int_mk Tryd.underlying48 (u64_wf x hx)) ?_; intro c hat hwc; rw [HH.out]; clear hat hwc)
  go_ret
  exact ⟨by simp, Below.refl _ _⟩
set_option maxRecDepth 100000 in
/-- an object's: where it is in the order behind it -/
theorem same_in {H : Type} (Bm Bo bm n i x : Nat) (f : Nat → Nat) (ov : Value) (ol : List Nat) (w : World) (hm : w.heap[Bm]? = some (.cells #[.map (some bm)] 62 (0, 0))) (ho : w.heap[Bo]? = some (.cells #[ov] 33 (0, 0)))
    (hown : w.ownsMap Tryd.prog 48 (plainElem (H := H) Tryd.prog 3) bm n (placeD H f n)) (hov : WordsAt w ov ol) (hi : i < n) (hx : ol[i]? = some x) (hev : f i % 2 = 0) (hf : ∀ i, i < n → f i < 18446744073709551616) (hinj : ∀ i j, i < n → j < n → f i = f j → i = j) :
    Calls Tryd.prog 26 #[.int .u64 (x : Int), .int .u64 (f i : Int), .pointer (some ⟨Bm, 0, none⟩), .pointer (some ⟨Bo, 0, none⟩)] w fun e w' => e = .returned (.bool true) ∧ Below w.heap.size w w' := by
  obtain ⟨hh, hat⟩ := place_in (H := H) hf hinj hi
  obtain ⟨oa, oc, rfl, o1, o2, o3⟩ := hov.get
  have hil : i < ol.length := (List.getElem?_eq_some_iff.1 hx).1
  obtain ⟨b, o, rfl, hbl, hc⟩ := o3 i hil
  rw [(List.getElem?_eq_some_iff.1 hx).2] at hc
  have y0 := cellO hm 0
  have z0 := cellO ho 0
  simp at y0 z0
  have hfi := hf i hi
  obtain ⟨y, hy⟩ : ∃ y, f i = y := ⟨_, rfl⟩
  rw [hy] at hh hat hev hfi ⊢
  have hev' : (y : Int) % 2 = 0 := by omega
  have hiI : (i : Int) < ol.length := by omega
  unfold maxLen at o2
  have HH := Lib.hid hh; have HAT := Lib.hid (hat (.lit (.int .i64 0))); have HOW := Lib.hid hown
  clear hh hat hm ho hown hov o3 hf hinj hy hev hx
  go_enter Tryd.func26, Tryd.ntmps26
  go_wp2_with (at_lookup; refine wpList_lookup_own_ok_int _ rfl _ _ 62 rfl 48 3 .i64 keyLaw Tryd.underlying62 Tryd.underlying3 (zeroInt _) bm n (placeD H f n) rfl HOW.out _ _ rfl (keyOf_int_mk Tryd.underlying48 (u64_wf y hfi)) ?_; intro c hat hwc; rw [HH.out]; have hci := hat.symm.trans HAT.out; simp only [DataW.lit.injEq, Lit.int.injEq, true_and] at hci; obtain rfl := hci; clear hat hwc)
  go_ret
  exact ⟨by simp, Below.refl _ _⟩
end Go.Proofs.YtffbhocgjpdjpaaDoor
namespace Go.Proofs.YtffbhocgjpdjpaaDoor
open Go.RowKit Go.Maps
set_option linter.unusedVariables false
structure Behind (S2 : Nat → Bool) (M2 tu : Nat → Nat) (o : RO) (P : Nat) : Prop where
  one : 1 ≤ P
  fit : P + 2 ≤ 200
  there : S2 P = true
  ok : UnOK (M2 P) (M2 (P + 1))
  cls : M2 P = tu o.cls
  kind : hK (M2 (P + 1)) = o.kind
  size : hS (M2 (P + 1)) = 3
  words : o.kind ≠ 2 → P + 2 + 3 ≤ 200 ∧ o.words.length = 3 ∧ ∀ j, j < 3 → M2 (P + 2 + j) = tu (o.words.getD j 0)
  none : o.kind = 2 → o.words = []
section
variable {S T : Nat → Bool} {M : Nat → Nat} {R : List Nat} {free : Nat} {os : List RO}
theorem behind (hL : Lays free S M os) (c : CollOK 200 S M) (h : Stay S M R T) {k : Nat} {o : RO} (ho : os[k]? = some o) (hT : T o.at_ = true) : Behind (newS 200 M T) (newM 200 M T) (turnM M T) o (npl M T o.at_) := by
  have hO := hL.obj k o ho
  obtain ⟨-, u2, u3⟩ := hO.un
  obtain ⟨f1, -, f2, -⟩ := npl_fit c h hT
  obtain ⟨-, -, u, -, -, hz⟩ := c.obj o.at_ (h.sub hT)
  have hcz := cz3 u (c.small _) hz
  have e := new_head c h hT
  refine ⟨by omega, by omega, (newS_iff c h).2 ⟨_, hT, rfl⟩, new_un c h hT, by rw [new_cls c h hT, hO.cls], by rw [e]; exact u2, by rw [e]; exact u3, fun hk => ?_, hO.raw⟩
  obtain ⟨hl, hw⟩ := hO.words hk
  have hk' : hK (M (o.at_ + 1)) ≠ 2 := by rw [u2]; exact hk
  rw [if_neg hk', u3] at hcz
  have hcz : cz M o.at_ = 3 := hcz
  refine ⟨by omega, hl, fun j hj => ?_⟩
  have := new_word c h hT (i := j) (by omega)
  rw [if_neg hk', hw j hj] at this
  exact this
/-- its words are led to -/
theorem behind_wd (hL : Lays free S M os) (h : Stay S M R T) {k : Nat} {o : RO} (ho : os[k]? = some o) (hT : T o.at_ = true) {y : Nat} (hy : y ∈ o.cls :: o.words) : Wd S M R y := by
  obtain ⟨hw, hs⟩ := (h.iff _).1 hT
  exact Wd.step hw hs (by rw [leads_words hL ho]; exact hy)
def fAt (os : List RO) (kk : List Nat) (i : Nat) : Nat := 2 * atR os (kk.getD i 0)
/-- whatever is led to is the same behind it, as the law's own closure tells -/
theorem same_led {H : Type} (hL : Lays free S M os) (c : CollOK 200 S M) (h : Stay S M R T) (kk : List Nat) (hkk : ∀ k, k ∈ kk → k < os.length) (hall : ∀ a, T a = true ↔ ∃ k, k ∈ kk ∧ atR os k = a) (hnd : ∀ (i j : Nat), i < kk.length → j < kk.length → kk.getD i 0 = kk.getD j 0 → i = j)
    (Bm Bo bm : Nat) (ov : Value) (w : World) (hm : w.heap[Bm]? = some (.cells #[.map (some bm)] 62 (0, 0))) (ho : w.heap[Bo]? = some (.cells #[ov] 33 (0, 0)))
    (hown : w.ownsMap Tryd.prog 48 (plainElem (H := H) Tryd.prog 3) bm kk.length (placeD H (fAt os kk) kk.length)) (hov : WordsAt w ov (kk.map fun k => turnM M T (atR os k * 2))) {y : Nat} (hy : Wd S M R y) (hys : y < 18446744073709551616) :
    Calls Tryd.prog 26 #[.int .u64 (turnM M T y : Int), .int .u64 (y : Int), .pointer (some ⟨Bm, 0, none⟩), .pointer (some ⟨Bo, 0, none⟩)] w fun e w' => e = .returned (.bool true) ∧ Below w.heap.size w w' := by
  have hget : ∀ i, i < kk.length → kk.getD i 0 ∈ kk := fun i hi => by
    rw [List.getD_eq_getElem?_getD, List.getElem?_eq_getElem hi]; exact List.getElem_mem hi
  have hat : ∀ i, i < kk.length → T (atR os (kk.getD i 0)) = true := fun i hi => (hall _).2 ⟨_, hget i hi, rfl⟩
  have hlow : ∀ i, i < kk.length → 2 ≤ atR os (kk.getD i 0) ∧ atR os (kk.getD i 0) < 16777216 := fun i hi => by
    have := c.lt (h.sub (hat i hi)); omega
  rcases turn_in c h hy with ⟨rfl, h1⟩ | ⟨h0, h1⟩ | ⟨a, rfl, hT, h1⟩
  · rw [h1]
    exact same_out Bm Bo bm kk.length 0 _ ov w hm ho hown (by omega) (fun i hi => by have := hlow i hi; show 2 * atR os (kk.getD i 0) ≠ 0; omega)
  · rw [h1]
    exact same_out Bm Bo bm kk.length y _ ov w hm ho hown hys (fun i hi => by show 2 * atR os (kk.getD i 0) ≠ y; omega)
  · obtain ⟨k, hk, rfl⟩ := (hall a).1 hT
    obtain ⟨i, hi, hik⟩ := List.getElem_of_mem hk
    have hgi : kk.getD i 0 = k := by rw [List.getD_eq_getElem?_getD, List.getElem?_eq_getElem hi, hik]; rfl
    have hr := same_in (H := H) Bm Bo bm kk.length i (turnM M T (atR os k * 2)) (fun i => 2 * atR os (kk.getD i 0)) ov _ w hm ho hown hov hi (by rw [List.getElem?_map, List.getElem?_eq_getElem hi, hik]; rfl) (by show 2 * _ % 2 = 0; omega)
      (fun j hj => by have := hlow j hj; show 2 * atR os (kk.getD j 0) < _; omega)
      (fun j l hj hl e => by
        have e : 2 * atR os (kk.getD j 0) = 2 * atR os (kk.getD l 0) := e
        exact hnd j l hj hl (hL.atR_inj (hkk _ (hget j hj)) (hkk _ (hget l hl)) (by omega)))
    rw [show ((2 * atR os (kk.getD i 0) : Nat) : Int) = ((atR os k * 2 : Nat) : Int) by rw [hgi]; omega] at hr
    exact hr
end
/-- the document's list at the end: just what stays, each once -/
theorem list_stay {N free : Nat} {S : Nat → Bool} {M : Nat → Nat} {R : List Nat} {os : List RO} {m : Nat} {kk : List Nat} (hL : Lays free S M os) (hf : free ≤ N) (hG : GoodH N S M) (hN : N ≤ 16777216) (hm : (ordQ N S M R m).1.2.1.length = m) (r : RState os (ordQ N S M R m) kk) :
    Stay S M R (ordQ N S M R m).1.1 ∧ (∀ a, (ordQ N S M R m).1.1 a = true ↔ ∃ k, k ∈ kk ∧ atR os k = a) ∧ kk.length = cnt (ordQ N S M R m).1.1 N := by
  obtain ⟨e1, e2⟩ := ord_end hG hN (ord_inv (R := R) hG m) hm r.fine
  have inv := (ord_inv (R := R) hG m).inv
  refine ⟨⟨e2, e1⟩, fun a => ⟨fun ha => ?_, fun ⟨k, hk, hka⟩ => ?_⟩, ?_⟩
  · have := inv.mem a ha
    rw [r.wait] at this
    obtain ⟨k, hk, he⟩ := List.mem_map.1 this
    exact ⟨k, hk, by omega⟩
  · have : atR os k * 2 ∈ (ordQ N S M R m).1.2.1 := by rw [r.wait]; exact List.mem_map.2 ⟨k, hk, rfl⟩
    obtain ⟨a', h1, h2⟩ := inv.wait _ this
    have : a' = a := by omega
    rw [← this]; exact h2
  · rw [← inv.len, r.wait, List.length_map]
section
variable {N : Nat} {S : Nat → Bool} {M : Nat → Nat} {R : List Nat}
def OnceQ (s : StQ) : Prop := s.1.2.1.Nodup ∧ ∀ x, x ∈ s.1.2.1 → s.1.1 (x / 2) = true
theorem lead_once (hG : GoodH N S M) {s : StQ} (h : OnceQ s) (x : Nat) : OnceQ (leadQ N S M s x) := by
  unfold leadQ
  split
  · exact h
  · split
    · rename_i h0 hs
      have hlt : x / 2 < N := by have := (hG _ hs.2).1.2.1; omega
      unfold lead1
      rw [if_neg (by omega)]
      by_cases hm : s.1.1 (x / 2) = true
      · rw [if_pos hm]; exact h
      · rw [if_neg hm]
        refine ⟨?_, fun y hy => ?_⟩
        · show (s.1.2.1 ++ [x]).Nodup
          rw [List.nodup_append]
          refine ⟨h.1, by simp, fun a ha b hb e => ?_⟩
          have : b = x := by simpa using hb
          subst this
          subst e
          exact hm (h.2 _ ha)
        · refine (setT N (x / 2) s.1.1 hlt (y / 2)).2 ?_
          rcases List.mem_append.1 hy with hy | hy
          · exact Or.inr (h.2 y hy)
          · have : y = x := by simpa using hy
            exact Or.inl (by rw [this])
    · exact h
theorem fold_once (hG : GoodH N S M) (l : List Nat) : ∀ s : StQ, OnceQ s → OnceQ (foldQ N S M s l) := by
  induction l with
  | nil => intro s h; exact h
  | cons x l ih => intro s h; exact ih _ (lead_once hG h x)
theorem pre_once (hG : GoodH N S M) (n : Nat) : OnceQ (preQ N S M R n) := by
  induction n with
  | zero => exact ⟨List.nodup_nil, fun x hx => by cases hx⟩
  | succ n ih => rw [← round_fold n]; exact fold_once hG _ _ ih
theorem list_once (hG : GoodH N S M) {os : List RO} {m : Nat} {kk : List Nat} (r : RState os (ordQ N S M R m) kk) : ∀ (i j : Nat), i < kk.length → j < kk.length → kk.getD i 0 = kk.getD j 0 → i = j := by
  intro i j hi hj e
  have h := (pre_once (R := R) hG (m + 1)).1
  have h : (ordQ N S M R m).1.2.1.Nodup := h
  rw [r.wait] at h
  rw [List.getD_eq_getElem?_getD, List.getD_eq_getElem?_getD, List.getElem?_eq_getElem hi, List.getElem?_eq_getElem hj] at e
  have e : kk[i] = kk[j] := e
  have key : ∀ (p q : Nat) (hp : p < kk.length) (hq : q < kk.length), p < q → kk[p] ≠ kk[q] := fun p q hp hq hpq he => by
    have hpw := List.pairwise_iff_getElem.1 h p q (by rw [List.length_map]; exact hp) (by rw [List.length_map]; exact hq) hpq
    rw [List.getElem_map, List.getElem_map, he] at hpw
    exact hpw rfl
  rcases Nat.lt_trichotomy i j with hl | hl | hl
  · exact absurd e (key i j hi hj hl)
  · exact hl
  · exact absurd e.symm (key j i hj hi hl)
end
end Go.Proofs.YtffbhocgjpdjpaaDoor
