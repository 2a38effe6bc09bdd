/- The law's own events: at most twenty, their texts cut at 200. -/
import Derived.Test.YtffmkmhnhecmnaaEvMem
import Derived.Deep.RegionHeld3
import Derived.Deep.AppendLies
namespace Go.Proofs.Ytffmkmhnhecmnaa
open Go.RowKit
theorem ownsB_shape {w : World} {B : Nat} {v : Value} {l : List UInt8} (h : OwnsB w B v l) : ∃ a c, v = .slice a l.length c := by
  obtain ⟨a, c, hv, -⟩ := row_of_owns_any h
  exact ⟨a, c, hv⟩
theorem grown_of_below {w w' : World} (h : Below w.heap.size w w') : w.grownBy w' none := ⟨h.os, h.tape, h.output, h.size, fun k hk _ => h.block k hk⟩
theorem owns_later {w w' : World} {B e size n : Nat} {v : Value} {xs : List Value} (h : w.ownsRow B e size v n xs) (hb : Below w.heap.size w w') : w'.ownsRow B e size v n xs := by
  refine h.kept (grown_of_below hb) ?_
  cases v.ownBlock with
  | none => exact Or.inl rfl
  | some k => exact Or.inr (by simp)
theorem own_keep {w5 w6 : World} {o : Obj} {v u : Value} {p j : Nat} (hg : (w5.alloc o).grownBy w6 v.ownBlock) (hp : p < w5.heap.size) (hv : ∀ k, v.ownBlock = some k → k ≠ p) (h : w5.cell? ⟨p, j, none⟩ = some u) : w6.cell? ⟨p, j, none⟩ = some u := by
  have e : w6.heap[p]? = (w5.alloc o).heap[p]? := hg.block p (by simp; omega) (fun e => hv p e.symm rfl)
  rw [World.cell?_of_block (w := w5.alloc o) (a := ⟨p, j, none⟩) e]
  rw [World.cell?_alloc_past o p j hp]
  exact h
theorem ownBlocks_ne {w : World} {B B' e e' s s' n n' : Nat} {v v' : Value} {xs ys : List Value} (h : w.ownsRow B e s v n xs) (k : w.ownsRow B' e' s' v' n' ys) (he : e ≠ e') : v.ownBlock = none ∨ v.ownBlock ≠ v'.ownBlock := by
  rcases h.2 with ⟨hv, -⟩ | ⟨g, cap, cur, hv, -, hg, -⟩
  · exact Or.inl (by rw [hv]; rfl)
  · refine Or.inr ?_
    rcases k.2 with ⟨kv, -⟩ | ⟨g', cap', cur', kv, -, kg, -⟩
    · rw [hv, kv]; simp [Value.ownBlock]
    · rw [hv, kv]
      simp only [Value.ownBlock, ne_eq, Option.some.injEq]
      intro hgg
      subst hgg
      rw [hg] at kg
      simp only [Option.some.injEq, Obj.cells.injEq] at kg
      exact he kg.2.1
/-- as 'EvCells', the bytes being the call's own -/
def EvOwns (w : World) (B : Nat) (xs : List Value) (es : List Ev) : Prop :=
  xs.length = es.length * 3 ∧ ∀ i e, es[i]? = some e → ∃ bv nm, xs[i * 3]? = some (.int .i64 e.kind) ∧ xs[i * 3 + 1]? = some bv ∧ xs[i * 3 + 2]? = some (.string nm) ∧ nm.data.toList = e.name ∧ OwnsB w B bv e.bytes
theorem EvOwns.nil (w : World) (B : Nat) : EvOwns w B [] [] := ⟨rfl, fun i e h => by simp at h⟩
theorem EvOwns.cells {w : World} {B : Nat} {xs : List Value} {es : List Ev} (h : EvOwns w B xs es) : EvCells w xs es :=
  ⟨h.1, fun i e he => let ⟨bv, nm, a, b, c, d, f⟩ := h.2 i e he; ⟨bv, nm, a, b, c, d, bytes_of_owns f⟩⟩
theorem EvOwns.later {w w' : World} {B : Nat} {xs : List Value} {es : List Ev} (h : EvOwns w B xs es) (hb : Below w.heap.size w w') : EvOwns w' B xs es :=
  ⟨h.1, fun i e he => let ⟨bv, nm, a, b, c, d, f⟩ := h.2 i e he; ⟨bv, nm, a, b, c, d, owns_later f hb⟩⟩
theorem EvOwns.kept {w w' : World} {B B' e s n : Nat} {v : Value} {xs ys : List Value} {es : List Ev} (h : EvOwns w B xs es) (hv : w.ownsRow B' e s v n ys) (he : 5 ≠ e) (hg : w.grownBy w' v.ownBlock) : EvOwns w' B xs es :=
  ⟨h.1, fun i e' he' => let ⟨bv, nm, a, b, c, d, f⟩ := h.2 i e' he'; ⟨bv, nm, a, b, c, d, World.ownsRow.kept f hg (ownBlocks_ne f hv he)⟩⟩
theorem EvOwns.snoc {w : World} {B : Nat} {xs : List Value} {es : List Ev} {bv : Value} {nm : ByteArray} {e : Ev} (h : EvOwns w B xs es) (hn : nm.data.toList = e.name) (hb : OwnsB w B bv e.bytes) :
    EvOwns w B (xs ++ [.int .i64 e.kind, bv, .string nm]) (es ++ [e]) := by
  refine ⟨by rw [List.length_append, List.length_append, h.1]; simp; omega, fun i e' he => ?_⟩
  have hl := h.1
  by_cases hi : i < es.length
  · rw [List.getElem?_append_left hi] at he
    obtain ⟨bv', nm', a, b, c, d, f⟩ := h.2 i e' he
    exact ⟨bv', nm', by rw [List.getElem?_append_left (by omega)]; exact a, by rw [List.getElem?_append_left (by omega)]; exact b, by rw [List.getElem?_append_left (by omega)]; exact c, d, f⟩
  · rw [List.getElem?_append_right (by omega)] at he
    have hi' : i = es.length := by
      have := (List.getElem?_eq_some_iff.1 he).1
      simp at this; omega
    subst hi'
    simp at he
    subst he
    refine ⟨bv, nm, ?_, ?_, ?_, hn, hb⟩
    · rw [List.getElem?_append_right (by omega), hl]; simp
    · rw [List.getElem?_append_right (by omega), hl, show es.length * 3 + 1 - es.length * 3 = 1 by omega]; rfl
    · rw [List.getElem?_append_right (by omega), hl, show es.length * 3 + 2 - es.length * 3 = 2 by omega]; rfl
theorem bytes_take {w : World} {a : Option Addr} {c m : Nat} {l : List UInt8} (h : BytesAt w (.slice a l.length c) l) (hm : m ≤ l.length) : BytesAt w (.slice a m c) (l.take m) := by
  obtain ⟨a', c', hv, h1, h2, h3, h4⟩ := h
  injection hv with ha _ hc
  subst ha hc
  have hlen : (l.take m).length = m := by rw [List.length_take]; omega
  refine ⟨a, c, by rw [hlen], by omega, h2, ?_, h4⟩
  rcases h3 with h3 | ⟨b, o, hab, hcell⟩
  · refine Or.inl ?_
    have hl0 : l = [] := by simpa [Lib.byteCells] using h3
    subst hl0; simp [Lib.byteCells]
  · refine Or.inr ⟨b, o, hab, fun j hj => ?_⟩
    rw [Lib.byteCells_length, hlen] at hj
    rw [hcell j (by rw [Lib.byteCells_length]; omega)]
    simp only [Lib.byteCells, List.map_take]
    rw [List.getElem?_take, if_pos hj]
theorem extract_take (s : ByteArray) : (s.extract 0 200).data.toList = s.data.toList.take 200 := by
  simp [ByteArray.data_extract]
theorem owns_weak {w : World} {B B' : Nat} {v : Value} {l l' : List UInt8} (h : OwnsB w B v l) (hl : l = l') (hB : B' ≤ B) : OwnsB w B' v l' := by
  subst hl
  obtain ⟨h1, h2⟩ := h
  refine ⟨h1, ?_⟩
  rcases h2 with h2 | ⟨g, cap, cur, a, b, c⟩
  · exact Or.inl h2
  · exact Or.inr ⟨g, cap, cur, a, Nat.le_trans hB b, c⟩
def cutEv (e : Ev) : Ev := ⟨e.kind, e.bytes.take 200, e.name.take 200⟩
theorem evInfo : (Try.prog.info? 45).map (fun i => (i.zero, i.size, i.bytes)) = some (some (.agg #[.int .i64 0, .slice none 0 0, .string ⟨#[]⟩]), 3, 48) := by kernel_rfl
set_option maxRecDepth 100000 in
set_option maxHeartbeats 1600000 in
theorem own25_any (v : Value) (es : List Ev) (w : World) (h : EvsAt w v es) :
    Calls Try.prog 7 #[v] w fun e w' => ∃ v', e = .returned v' ∧ EvsAt w' v' ((es.map cutEv).take 20) ∧ Below w.heap.size w w' := by
  obtain ⟨i0, hi, hz0, hz1, hz2⟩ := info_parts evInfo
  obtain ⟨a, cap, rfl, h1, h2, h3, h4⟩ := h.get
  have H := Lib.hid h; have H4 := Lib.hid h4; clear h h3 h4
  unfold maxLen at h2
  go_enter Try.func7, Try.ntmps7
  go_wp2_with fail
  go_loopg [3, 4] 20 (fun g v i wr => ∃ (k n : Nat) (xs : List Value), g = 20 - k ∧ k ≤ 20 ∧ k ≤ es.length ∧ i = .int .i64 k ∧ wr.ownsRow w.heap.size 45 3 v n xs ∧ EvOwns wr w.heap.size xs ((es.map cutEv).take k) ∧ Below w.heap.size w wr)
  case atStart => exact ⟨0, 0, [], rfl, by omega, by omega, rfl, World.ownsRow_nil _ _ _ _, EvOwns.nil _ _, Below.refl _ _⟩
  case round =>
    obtain ⟨k, n, xs, hgk, hk, hkl, rfl, hown, hev, hg⟩ := hrel
    have HO := Lib.hid hown; have HE := Lib.hid hev; have HG := Lib.hid hg; have HK := Lib.hid hgk; clear hown hev hg hgk
    by_cases hlt : k < es.length
    · by_cases h20 : k < 20
      · obtain ⟨b, o, bv, nm, hab, hbl, c0, c1, c2, hn, hbv⟩ := H4.out k es[k] (List.getElem?_eq_getElem hlt)
        subst hab
        have d0 := (HG.out.cell (p := ⟨b, o + k * 3, none⟩) hbl).trans c0
        have d1 := (HG.out.cell (p := ⟨b, o + k * 3 + 1, none⟩) hbl).trans c1
        have d2 := (HG.out.cell (p := ⟨b, o + k * 3 + 2, none⟩) hbl).trans c2
        have hwl := HG.out.size
        have hbl' : b < wr.heap.size := by omega
        have HN := Lib.hid hn
        have HBV := Lib.hid hbv
        obtain ⟨ab, cb, rfl, l1, l2, l3, l4⟩ := hbv
        have HS := Lib.hid (show (es.map cutEv).take (k + 1) = (es.map cutEv).take k ++ [cutEv es[k]] by rw [List.take_succ_eq_append_getElem (by rw [List.length_map]; exact hlt), List.getElem_map])
        generalize es[k] = e at *
        clear c0 c1 c2 hn l3 l4
        unfold maxLen at l2
        have hnb : n ≤ 20 := by have h1 := HO.out.1; have h2 := HE.out.1; rw [List.length_take, List.length_map] at h2; omega
        have hul := HO.out.lt
        have HV := Lib.hid (fun (q : Nat) (hq : u3.ownBlock = some q) => (show q ≠ wr.heap.size by have := (hul q hq).2; omega))
        have HU := Lib.hid hul; clear hul
        by_cases hb2 : 200 < e.bytes.length
        · have HLB := Lib.hid (show (e.bytes.take 200).length = 200 by rw [List.length_take]; omega)
          have HBT := Lib.hid (fun W (hW : Below w.heap.size w W) => bytes_take (m := 200) (HBV.out.later hW) (by omega))
          have HCB := Lib.hid (show e.bytes.take 200 = (cutEv e).bytes from rfl)
          by_cases hn2 : 200 < nm.size
          · go_wp2_with fail
            go_region_held3 (fun w' => w'.cell? ⟨wr.heap.size, 0, none⟩ = some (.int .i64 e.kind) ∧ w'.cell? ⟨wr.heap.size, 1, none⟩ = some (.slice ab 200 cb) ∧ w'.cell? ⟨wr.heap.size, 2, none⟩ = some (.string (nm.extract 0 200)))
              (first | go_keep | (refine ⟨?_, ?_, ?_⟩ <;> assumption))
              (first
                | (refine step_append_lies _ (by rfl) _ _ _ (by rfl) w.heap.size 45 i0 _ 3 48 Try.underlying24 hi hz0 hz1 hz2 rfl (by omega) u3 n xs (by rfl) (ho6.alloc _)
                    ⟨w5.heap.size, 0, none⟩ 1 1 [.int .i64 e.kind, .slice a5 200 c5, .string (nm.extract 0 200)] (by rfl) (by rfl) (World.news_of_block (cs := #[.int .i64 e.kind, .slice a5 200 c5, .string (nm.extract 0 200)]) (t := 45) (fr := (0, 0)) (heap_alloc_new w5 _)) (by simp [Value.oneCell'])
                    (by omega) (by unfold maxLen; omega) (by omega) (by simp; omega) (w5.heap.size + 1) (by simp) ?_; intro gg cap6 w6 hown6 hgrow6 hat6 hlt6; have j0 := own_keep hgrow6 (by omega) HV.out k0; have j1 := own_keep hgrow6 (by omega) HV.out k1; have j2 := own_keep hgrow6 (by omega) HV.out k2)
                | (go_at_call 19; refine (copy_any _ (e.bytes.take 200) _ ?_ ?_).mono ?_; (focus (refine HBT.out _ ?_; repeat (first | with_reducible exact Below.refl _ _ | ((with_reducible refine Below.setCell ?_ ?_ _); rotate_left; focus (first | (simp; done) | (simp; omega) | omega)) | ((with_reducible refine Below.alloc ?_ ?_ _); rotate_left; focus (first | (simp; done) | (simp; omega) | omega)) | (with_reducible refine Below.drew ?_) | ((with_reducible refine Below.trans ?_ (Below.mono HG.out ?_)); rotate_left; focus (first | (simp; done) | (simp; omega) | omega))))); (focus (rw [HLB.out]; omega)); rintro e5 w5 ⟨v5, rfl, ho5, hg5⟩; obtain ⟨a5, c5, rfl⟩ := ownsB_shape ho5; have k0 : w5.cell? ⟨wr.heap.size, 0, none⟩ = some (.int .i64 e.kind) := (hg5.cell (p := ⟨wr.heap.size, 0, none⟩) (by simp)).trans (by go_simp); have k1 : w5.cell? ⟨wr.heap.size, 1, none⟩ = some (.slice ab 200 cb) := (hg5.cell (p := ⟨wr.heap.size, 1, none⟩) (by simp)).trans (by go_simp); have k2 : w5.cell? ⟨wr.heap.size, 2, none⟩ = some (.string (nm.extract 0 200)) := (hg5.cell (p := ⟨wr.heap.size, 2, none⟩) (by simp)).trans (by go_simp); have ho6 : w5.ownsRow w.heap.size 45 3 u3 n xs := owns_later ((HO.out.alloc _).drew) hg5; have hz6 : wr.heap.size + 1 ≤ w5.heap.size := (by have hz7 := hg5.size; simp at hz7; omega); rw [HLB.out] at ho5 ⊢))
            have hw5 : Below w.heap.size w w5 := by
              refine Below.trans ?_ (hg5.mono (by simp; omega))
              repeat (first | with_reducible exact Below.refl _ _ | ((with_reducible refine Below.setCell ?_ ?_ _); rotate_left; focus (first | (simp; done) | (simp; omega) | omega)) | ((with_reducible refine Below.alloc ?_ ?_ _); rotate_left; focus (first | (simp; done) | (simp; omega) | omega)) | (with_reducible refine Below.drew ?_) | ((with_reducible refine Below.trans ?_ (Below.mono HG.out ?_)); rotate_left; focus (first | (simp; done) | (simp; omega) | omega)))
            have hw6 : Below w.heap.size w w6 := (hw5.alloc (by omega) _).grown hgrow6 (by simp; omega) (fun q hq => (HU.out q hq).1)
            have hev5 : EvOwns w5 w.heap.size xs ((es.map cutEv).take k) := HE.out.later (by
              refine Below.trans ?_ (hg5.mono (by simp))
              repeat (first | with_reducible exact Below.refl _ _ | ((with_reducible refine Below.setCell ?_ ?_ _); rotate_left; focus (first | (simp; done) | (simp; omega) | omega)) | ((with_reducible refine Below.alloc ?_ ?_ _); rotate_left; focus (first | (simp; done) | (simp; omega) | omega)) | (with_reducible refine Below.drew ?_)))
            have hb5 : OwnsB w5 w.heap.size (.slice a5 200 c5) (cutEv e).bytes := owns_weak ho5 HCB.out (by simp; omega)
            have hev6 : EvOwns w6 w.heap.size (xs ++ [.int .i64 e.kind, .slice a5 200 c5, .string (nm.extract 0 200)]) ((es.map cutEv).take (k + 1)) := by
              rw [HS.out]
              exact (((hev5.snoc (e := cutEv e) (by rw [extract_take nm, HN.out]; rfl) hb5).later (by repeat (first | with_reducible exact Below.refl _ _ | ((with_reducible refine Below.setCell ?_ ?_ _); rotate_left; focus (first | (simp; done) | (simp; omega) | omega)) | ((with_reducible refine Below.alloc ?_ ?_ _); rotate_left; focus (first | (simp; done) | (simp; omega) | omega)) | (with_reducible refine Below.drew ?_)))).kept (ho6.alloc _) (by decide) hgrow6)
            have HO6 := Lib.hid hown6; have HE6 := Lib.hid hev6; have HB6 := Lib.hid hw6
            clear hown6 hev6 hw6 hev5 hb5 hw5 hgrow6 ho6 j0 j1 j2 k0 k1 k2 hg5 ho5
            go_wp2_with fail
            go_roundg (20 - (k + 1))
            case measure => rw [HK.out]; omega
            case rel => exact ⟨k + 1, n + 1, _, rfl, by omega, by omega, by go_num, HO6.out, HE6.out, HB6.out⟩
          · go_wp2_with fail
            go_region_held3 (fun w' => w'.cell? ⟨wr.heap.size, 0, none⟩ = some (.int .i64 e.kind) ∧ w'.cell? ⟨wr.heap.size, 1, none⟩ = some (.slice ab 200 cb) ∧ w'.cell? ⟨wr.heap.size, 2, none⟩ = some (.string nm))
              (first | go_keep | (refine ⟨?_, ?_, ?_⟩ <;> assumption))
              (first
                | (refine step_append_lies _ (by rfl) _ _ _ (by rfl) w.heap.size 45 i0 _ 3 48 Try.underlying24 hi hz0 hz1 hz2 rfl (by omega) u3 n xs (by rfl) (ho6.alloc _)
                    ⟨w5.heap.size, 0, none⟩ 1 1 [.int .i64 e.kind, .slice a5 200 c5, .string nm] (by rfl) (by rfl) (World.news_of_block (cs := #[.int .i64 e.kind, .slice a5 200 c5, .string nm]) (t := 45) (fr := (0, 0)) (heap_alloc_new w5 _)) (by simp [Value.oneCell'])
                    (by omega) (by unfold maxLen; omega) (by omega) (by simp; omega) (w5.heap.size + 1) (by simp) ?_; intro gg cap6 w6 hown6 hgrow6 hat6 hlt6; have j0 := own_keep hgrow6 (by omega) HV.out k0; have j1 := own_keep hgrow6 (by omega) HV.out k1; have j2 := own_keep hgrow6 (by omega) HV.out k2)
                | (go_at_call 19; refine (copy_any _ (e.bytes.take 200) _ ?_ ?_).mono ?_; (focus (refine HBT.out _ ?_; repeat (first | with_reducible exact Below.refl _ _ | ((with_reducible refine Below.setCell ?_ ?_ _); rotate_left; focus (first | (simp; done) | (simp; omega) | omega)) | ((with_reducible refine Below.alloc ?_ ?_ _); rotate_left; focus (first | (simp; done) | (simp; omega) | omega)) | (with_reducible refine Below.drew ?_) | ((with_reducible refine Below.trans ?_ (Below.mono HG.out ?_)); rotate_left; focus (first | (simp; done) | (simp; omega) | omega))))); (focus (rw [HLB.out]; omega)); rintro e5 w5 ⟨v5, rfl, ho5, hg5⟩; obtain ⟨a5, c5, rfl⟩ := ownsB_shape ho5; have k0 : w5.cell? ⟨wr.heap.size, 0, none⟩ = some (.int .i64 e.kind) := (hg5.cell (p := ⟨wr.heap.size, 0, none⟩) (by simp)).trans (by go_simp); have k1 : w5.cell? ⟨wr.heap.size, 1, none⟩ = some (.slice ab 200 cb) := (hg5.cell (p := ⟨wr.heap.size, 1, none⟩) (by simp)).trans (by go_simp); have k2 : w5.cell? ⟨wr.heap.size, 2, none⟩ = some (.string nm) := (hg5.cell (p := ⟨wr.heap.size, 2, none⟩) (by simp)).trans (by go_simp); have ho6 : w5.ownsRow w.heap.size 45 3 u3 n xs := owns_later ((HO.out.alloc _).drew) hg5; have hz6 : wr.heap.size + 1 ≤ w5.heap.size := (by have hz7 := hg5.size; simp at hz7; omega); rw [HLB.out] at ho5 ⊢))
            have hw5 : Below w.heap.size w w5 := by
              refine Below.trans ?_ (hg5.mono (by simp; omega))
              repeat (first | with_reducible exact Below.refl _ _ | ((with_reducible refine Below.setCell ?_ ?_ _); rotate_left; focus (first | (simp; done) | (simp; omega) | omega)) | ((with_reducible refine Below.alloc ?_ ?_ _); rotate_left; focus (first | (simp; done) | (simp; omega) | omega)) | (with_reducible refine Below.drew ?_) | ((with_reducible refine Below.trans ?_ (Below.mono HG.out ?_)); rotate_left; focus (first | (simp; done) | (simp; omega) | omega)))
            have hw6 : Below w.heap.size w w6 := (hw5.alloc (by omega) _).grown hgrow6 (by simp; omega) (fun q hq => (HU.out q hq).1)
            have hev5 : EvOwns w5 w.heap.size xs ((es.map cutEv).take k) := HE.out.later (by
              refine Below.trans ?_ (hg5.mono (by simp))
              repeat (first | with_reducible exact Below.refl _ _ | ((with_reducible refine Below.setCell ?_ ?_ _); rotate_left; focus (first | (simp; done) | (simp; omega) | omega)) | ((with_reducible refine Below.alloc ?_ ?_ _); rotate_left; focus (first | (simp; done) | (simp; omega) | omega)) | (with_reducible refine Below.drew ?_)))
            have hb5 : OwnsB w5 w.heap.size (.slice a5 200 c5) (cutEv e).bytes := owns_weak ho5 HCB.out (by simp; omega)
            have hev6 : EvOwns w6 w.heap.size (xs ++ [.int .i64 e.kind, .slice a5 200 c5, .string nm]) ((es.map cutEv).take (k + 1)) := by
              rw [HS.out]
              exact (((hev5.snoc (e := cutEv e) (by rw [HN.out]; exact (List.take_of_length_le (by rw [← HN.out, len_ba]; omega)).symm) hb5).later (by repeat (first | with_reducible exact Below.refl _ _ | ((with_reducible refine Below.setCell ?_ ?_ _); rotate_left; focus (first | (simp; done) | (simp; omega) | omega)) | ((with_reducible refine Below.alloc ?_ ?_ _); rotate_left; focus (first | (simp; done) | (simp; omega) | omega)) | (with_reducible refine Below.drew ?_)))).kept (ho6.alloc _) (by decide) hgrow6)
            have HO6 := Lib.hid hown6; have HE6 := Lib.hid hev6; have HB6 := Lib.hid hw6
            clear hown6 hev6 hw6 hev5 hb5 hw5 hgrow6 ho6 j0 j1 j2 k0 k1 k2 hg5 ho5
            go_wp2_with fail
            go_roundg (20 - (k + 1))
            case measure => rw [HK.out]; omega
            case rel => exact ⟨k + 1, n + 1, _, rfl, by omega, by omega, by go_num, HO6.out, HE6.out, HB6.out⟩
        · have HBT := Lib.hid (fun W (hW : Below w.heap.size w W) => HBV.out.later hW)
          have HCB := Lib.hid (show e.bytes = (cutEv e).bytes from (List.take_of_length_le (by omega)).symm)
          by_cases hn2 : 200 < nm.size
          · go_wp2_with fail
            go_region_held3 (fun w' => w'.cell? ⟨wr.heap.size, 0, none⟩ = some (.int .i64 e.kind) ∧ w'.cell? ⟨wr.heap.size, 1, none⟩ = some (.slice ab e.bytes.length cb) ∧ w'.cell? ⟨wr.heap.size, 2, none⟩ = some (.string (nm.extract 0 200)))
              (first | go_keep | (refine ⟨?_, ?_, ?_⟩ <;> assumption))
              (first
                | (refine step_append_lies _ (by rfl) _ _ _ (by rfl) w.heap.size 45 i0 _ 3 48 Try.underlying24 hi hz0 hz1 hz2 rfl (by omega) u3 n xs (by rfl) (ho6.alloc _)
                    ⟨w5.heap.size, 0, none⟩ 1 1 [.int .i64 e.kind, .slice a5 e.bytes.length c5, .string (nm.extract 0 200)] (by rfl) (by rfl) (World.news_of_block (cs := #[.int .i64 e.kind, .slice a5 e.bytes.length c5, .string (nm.extract 0 200)]) (t := 45) (fr := (0, 0)) (heap_alloc_new w5 _)) (by simp [Value.oneCell'])
                    (by omega) (by unfold maxLen; omega) (by omega) (by simp; omega) (w5.heap.size + 1) (by simp) ?_; intro gg cap6 w6 hown6 hgrow6 hat6 hlt6; have j0 := own_keep hgrow6 (by omega) HV.out k0; have j1 := own_keep hgrow6 (by omega) HV.out k1; have j2 := own_keep hgrow6 (by omega) HV.out k2)
                | (go_at_call 19; refine (copy_any _ e.bytes _ ?_ ?_).mono ?_; (focus (refine HBT.out _ ?_; repeat (first | with_reducible exact Below.refl _ _ | ((with_reducible refine Below.setCell ?_ ?_ _); rotate_left; focus (first | (simp; done) | (simp; omega) | omega)) | ((with_reducible refine Below.alloc ?_ ?_ _); rotate_left; focus (first | (simp; done) | (simp; omega) | omega)) | (with_reducible refine Below.drew ?_) | ((with_reducible refine Below.trans ?_ (Below.mono HG.out ?_)); rotate_left; focus (first | (simp; done) | (simp; omega) | omega))))); (focus omega); rintro e5 w5 ⟨v5, rfl, ho5, hg5⟩; obtain ⟨a5, c5, rfl⟩ := ownsB_shape ho5; have k0 : w5.cell? ⟨wr.heap.size, 0, none⟩ = some (.int .i64 e.kind) := (hg5.cell (p := ⟨wr.heap.size, 0, none⟩) (by simp)).trans (by go_simp); have k1 : w5.cell? ⟨wr.heap.size, 1, none⟩ = some (.slice ab e.bytes.length cb) := (hg5.cell (p := ⟨wr.heap.size, 1, none⟩) (by simp)).trans (by go_simp); have k2 : w5.cell? ⟨wr.heap.size, 2, none⟩ = some (.string (nm.extract 0 200)) := (hg5.cell (p := ⟨wr.heap.size, 2, none⟩) (by simp)).trans (by go_simp); have ho6 : w5.ownsRow w.heap.size 45 3 u3 n xs := owns_later ((HO.out.alloc _).drew) hg5; have hz6 : wr.heap.size + 1 ≤ w5.heap.size := (by have hz7 := hg5.size; simp at hz7; omega)))
            have hw5 : Below w.heap.size w w5 := by
              refine Below.trans ?_ (hg5.mono (by simp; omega))
              repeat (first | with_reducible exact Below.refl _ _ | ((with_reducible refine Below.setCell ?_ ?_ _); rotate_left; focus (first | (simp; done) | (simp; omega) | omega)) | ((with_reducible refine Below.alloc ?_ ?_ _); rotate_left; focus (first | (simp; done) | (simp; omega) | omega)) | (with_reducible refine Below.drew ?_) | ((with_reducible refine Below.trans ?_ (Below.mono HG.out ?_)); rotate_left; focus (first | (simp; done) | (simp; omega) | omega)))
            have hw6 : Below w.heap.size w w6 := (hw5.alloc (by omega) _).grown hgrow6 (by simp; omega) (fun q hq => (HU.out q hq).1)
            have hev5 : EvOwns w5 w.heap.size xs ((es.map cutEv).take k) := HE.out.later (by
              refine Below.trans ?_ (hg5.mono (by simp))
              repeat (first | with_reducible exact Below.refl _ _ | ((with_reducible refine Below.setCell ?_ ?_ _); rotate_left; focus (first | (simp; done) | (simp; omega) | omega)) | ((with_reducible refine Below.alloc ?_ ?_ _); rotate_left; focus (first | (simp; done) | (simp; omega) | omega)) | (with_reducible refine Below.drew ?_)))
            have hb5 : OwnsB w5 w.heap.size (.slice a5 e.bytes.length c5) (cutEv e).bytes := owns_weak ho5 HCB.out (by simp; omega)
            have hev6 : EvOwns w6 w.heap.size (xs ++ [.int .i64 e.kind, .slice a5 e.bytes.length c5, .string (nm.extract 0 200)]) ((es.map cutEv).take (k + 1)) := by
              rw [HS.out]
              exact (((hev5.snoc (e := cutEv e) (by rw [extract_take nm, HN.out]; rfl) hb5).later (by repeat (first | with_reducible exact Below.refl _ _ | ((with_reducible refine Below.setCell ?_ ?_ _); rotate_left; focus (first | (simp; done) | (simp; omega) | omega)) | ((with_reducible refine Below.alloc ?_ ?_ _); rotate_left; focus (first | (simp; done) | (simp; omega) | omega)) | (with_reducible refine Below.drew ?_)))).kept (ho6.alloc _) (by decide) hgrow6)
            have HO6 := Lib.hid hown6; have HE6 := Lib.hid hev6; have HB6 := Lib.hid hw6
            clear hown6 hev6 hw6 hev5 hb5 hw5 hgrow6 ho6 j0 j1 j2 k0 k1 k2 hg5 ho5
            go_wp2_with fail
            go_roundg (20 - (k + 1))
            case measure => rw [HK.out]; omega
            case rel => exact ⟨k + 1, n + 1, _, rfl, by omega, by omega, by go_num, HO6.out, HE6.out, HB6.out⟩
          · go_wp2_with fail
            go_region_held3 (fun w' => w'.cell? ⟨wr.heap.size, 0, none⟩ = some (.int .i64 e.kind) ∧ w'.cell? ⟨wr.heap.size, 1, none⟩ = some (.slice ab e.bytes.length cb) ∧ w'.cell? ⟨wr.heap.size, 2, none⟩ = some (.string nm))
              (first | go_keep | (refine ⟨?_, ?_, ?_⟩ <;> assumption))
              (first
                | (refine step_append_lies _ (by rfl) _ _ _ (by rfl) w.heap.size 45 i0 _ 3 48 Try.underlying24 hi hz0 hz1 hz2 rfl (by omega) u3 n xs (by rfl) (ho6.alloc _)
                    ⟨w5.heap.size, 0, none⟩ 1 1 [.int .i64 e.kind, .slice a5 e.bytes.length c5, .string nm] (by rfl) (by rfl) (World.news_of_block (cs := #[.int .i64 e.kind, .slice a5 e.bytes.length c5, .string nm]) (t := 45) (fr := (0, 0)) (heap_alloc_new w5 _)) (by simp [Value.oneCell'])
                    (by omega) (by unfold maxLen; omega) (by omega) (by simp; omega) (w5.heap.size + 1) (by simp) ?_; intro gg cap6 w6 hown6 hgrow6 hat6 hlt6; have j0 := own_keep hgrow6 (by omega) HV.out k0; have j1 := own_keep hgrow6 (by omega) HV.out k1; have j2 := own_keep hgrow6 (by omega) HV.out k2)
                | (go_at_call 19; refine (copy_any _ e.bytes _ ?_ ?_).mono ?_; (focus (refine HBT.out _ ?_; repeat (first | with_reducible exact Below.refl _ _ | ((with_reducible refine Below.setCell ?_ ?_ _); rotate_left; focus (first | (simp; done) | (simp; omega) | omega)) | ((with_reducible refine Below.alloc ?_ ?_ _); rotate_left; focus (first | (simp; done) | (simp; omega) | omega)) | (with_reducible refine Below.drew ?_) | ((with_reducible refine Below.trans ?_ (Below.mono HG.out ?_)); rotate_left; focus (first | (simp; done) | (simp; omega) | omega))))); (focus omega); rintro e5 w5 ⟨v5, rfl, ho5, hg5⟩; obtain ⟨a5, c5, rfl⟩ := ownsB_shape ho5; have k0 : w5.cell? ⟨wr.heap.size, 0, none⟩ = some (.int .i64 e.kind) := (hg5.cell (p := ⟨wr.heap.size, 0, none⟩) (by simp)).trans (by go_simp); have k1 : w5.cell? ⟨wr.heap.size, 1, none⟩ = some (.slice ab e.bytes.length cb) := (hg5.cell (p := ⟨wr.heap.size, 1, none⟩) (by simp)).trans (by go_simp); have k2 : w5.cell? ⟨wr.heap.size, 2, none⟩ = some (.string nm) := (hg5.cell (p := ⟨wr.heap.size, 2, none⟩) (by simp)).trans (by go_simp); have ho6 : w5.ownsRow w.heap.size 45 3 u3 n xs := owns_later ((HO.out.alloc _).drew) hg5; have hz6 : wr.heap.size + 1 ≤ w5.heap.size := (by have hz7 := hg5.size; simp at hz7; omega)))
            have hw5 : Below w.heap.size w w5 := by
              refine Below.trans ?_ (hg5.mono (by simp; omega))
              repeat (first | with_reducible exact Below.refl _ _ | ((with_reducible refine Below.setCell ?_ ?_ _); rotate_left; focus (first | (simp; done) | (simp; omega) | omega)) | ((with_reducible refine Below.alloc ?_ ?_ _); rotate_left; focus (first | (simp; done) | (simp; omega) | omega)) | (with_reducible refine Below.drew ?_) | ((with_reducible refine Below.trans ?_ (Below.mono HG.out ?_)); rotate_left; focus (first | (simp; done) | (simp; omega) | omega)))
            have hw6 : Below w.heap.size w w6 := (hw5.alloc (by omega) _).grown hgrow6 (by simp; omega) (fun q hq => (HU.out q hq).1)
            have hev5 : EvOwns w5 w.heap.size xs ((es.map cutEv).take k) := HE.out.later (by
              refine Below.trans ?_ (hg5.mono (by simp))
              repeat (first | with_reducible exact Below.refl _ _ | ((with_reducible refine Below.setCell ?_ ?_ _); rotate_left; focus (first | (simp; done) | (simp; omega) | omega)) | ((with_reducible refine Below.alloc ?_ ?_ _); rotate_left; focus (first | (simp; done) | (simp; omega) | omega)) | (with_reducible refine Below.drew ?_)))
            have hb5 : OwnsB w5 w.heap.size (.slice a5 e.bytes.length c5) (cutEv e).bytes := owns_weak ho5 HCB.out (by simp; omega)
            have hev6 : EvOwns w6 w.heap.size (xs ++ [.int .i64 e.kind, .slice a5 e.bytes.length c5, .string nm]) ((es.map cutEv).take (k + 1)) := by
              rw [HS.out]
              exact (((hev5.snoc (e := cutEv e) (by rw [HN.out]; exact (List.take_of_length_le (by rw [← HN.out, len_ba]; omega)).symm) hb5).later (by repeat (first | with_reducible exact Below.refl _ _ | ((with_reducible refine Below.setCell ?_ ?_ _); rotate_left; focus (first | (simp; done) | (simp; omega) | omega)) | ((with_reducible refine Below.alloc ?_ ?_ _); rotate_left; focus (first | (simp; done) | (simp; omega) | omega)) | (with_reducible refine Below.drew ?_)))).kept (ho6.alloc _) (by decide) hgrow6)
            have HO6 := Lib.hid hown6; have HE6 := Lib.hid hev6; have HB6 := Lib.hid hw6
            clear hown6 hev6 hw6 hev5 hb5 hw5 hgrow6 ho6 j0 j1 j2 k0 k1 k2 hg5 ho5
            go_wp2_with fail
            go_roundg (20 - (k + 1))
            case measure => rw [HK.out]; omega
            case rel => exact ⟨k + 1, n + 1, _, rfl, by omega, by omega, by go_num, HO6.out, HE6.out, HB6.out⟩
      · obtain rfl : k = 20 := by omega
        have hfin := evs_of_owns HO.out HE.out.cells
        have HF := Lib.hid hfin; clear hfin
        go_wp2_with fail
        all_goals first
          | (go_ret; exact ⟨_, rfl, HF.out, HG.out⟩)
          | (exfalso; go_light; omega)
    · have hk2 : (es.map cutEv).take k = (es.map cutEv).take 20 := by rw [List.take_of_length_le (by rw [List.length_map]; omega), List.take_of_length_le (by rw [List.length_map]; omega)]
      have hev := HE.out
      rw [hk2] at hev
      have hfin := evs_of_owns HO.out hev.cells
      have HF := Lib.hid hfin; clear hfin hev hk2
      go_wp2_with fail
      go_ret
      exact ⟨_, rfl, HF.out, HG.out⟩
end Go.Proofs.Ytffmkmhnhecmnaa
