/- The text of events, read back. -/
import Derived.Test.YtffmkmhnhecmnaaEvRead
import Derived.Maps.AppendAt
namespace Go.Proofs.Ytffmkmhnhecmnaa
open Go.RowKit
set_option linter.unusedVariables false
theorem plainK_succ {l : List Ev} {k : Nat} (hk : k < l.length) (h : plainK (l.take k) = true) : plainK (l.take (k + 1)) = decide (1 ≤ l[k].kind ∧ l[k].kind ≤ 3) := by
  unfold plainK at *
  rw [List.take_succ_eq_append_getElem hk, List.all_append, h]
  simp
theorem plainK_no {l : List Ev} {k : Nat} (hk : k < l.length) (h : ¬ (1 ≤ l[k].kind ∧ l[k].kind ≤ 3)) : plainK l = false := by
  unfold plainK
  rw [List.all_eq_false]
  exact ⟨l[k], List.getElem_mem hk, by simpa using h⟩
set_option maxRecDepth 100000 in
set_option maxHeartbeats 1000000 in
theorem parse_any (l : List Ev) (w : World) (sl : smallEvs l) (hl : l.length ≤ 1000) :
    Calls Try.prog 18 #[.string ⟨(textL l).toArray⟩] w fun x w' => ∃ v n c, x = .returned (.tuple #[v, .int .i64 n, .int .i64 c]) ∧ (plainK l = true → n = 0 ∧ c = 0 ∧ EvsAt w' v (l.map backE)) ∧ (plainK l = false → c = 3 ∧ v = .slice none 0 0) ∧ Below w.heap.size w w' := by
  obtain ⟨i0, hi, hz0, hz1, hz2⟩ := info_parts evInfo
  have SL := Lib.hid sl
  clear sl
  go_enter Try.func18, Try.ntmps18
  go_wp2_with fail
  go_loopg [0, 5, 6] l.length (fun gg s0 s5 s6 wr => ∃ (k : Nat) (xs : List Value), gg = l.length - k ∧ k ≤ l.length ∧ s0 = .string ⟨(textL (l.drop k)).toArray⟩ ∧ s6 = .int .i64 (k : Int) ∧ wr.ownsRow w.heap.size 45 3 s5 k xs ∧ EvTy wr xs ((l.take k).map backE) ∧ plainK (l.take k) = true ∧ Below w.heap.size w wr)
  case atStart => exact ⟨0, [], rfl, by omega, rfl, rfl, World.ownsRow_nil _ _ _ _, EvTy.nil _, rfl, Below.refl _ _⟩
  case round =>
    obtain ⟨k, xs, hgk, hk, rfl, rfl, hown, hev, hpl, hg⟩ := hrel
    have HO := Lib.hid hown; have HE := Lib.hid hev; have HG := Lib.hid hg; have HK := Lib.hid hgk; have HP := Lib.hid hpl
    have hwl := hg.size
    clear hown hev hg hgk hpl
    by_cases hlt : k < l.length
    · have hdr : l.drop k = l[k] :: l.drop (k + 1) := List.drop_eq_getElem_cons hlt
      have hsm := SL.out _ (List.getElem_mem hlt)
      have hlen := textL_len (l.drop k) (fun e he => SL.out e (List.mem_of_mem_drop he))
      have hlen2 : (l.drop k).length ≤ 1000 := by rw [List.length_drop]; omega
      have CU := Lib.hid (fun W => cut_any (lineL l[k]) (textL (l.drop (k + 1))) 10 W (lineL_nl l[k]) (by rw [← textL_cons, ← hdr]; omega))
      rw [← textL_cons, ← hdr] at CU
      have hne : ((⟨(textL (l.drop k)).toArray⟩ : ByteArray).toList == []) = false := by rw [Lib.toList_data, hdr, textL_cons]; simp
      have hne2 : ((⟨(textL (l.drop k)).toArray⟩ : ByteArray).toList != []) = true := by rw [bne, hne]; rfl
      generalize (⟨(textL (l.drop k)).toArray⟩ : ByteArray) = s at *
      by_cases hpk : 1 ≤ l[k].kind ∧ l[k].kind ≤ 3
      · have RD := Lib.hid (fun W => read_yes l[k] W hpk.1 hpk.2 hsm)
        have HP1 := Lib.hid ((plainK_succ hlt HP.out).trans (decide_eq_true hpk))
        have HB1 := Lib.hid (show (l.take (k + 1)).map backE = (l.take k).map backE ++ [backE l[k]] by rw [List.take_succ_eq_append_getElem hlt, List.map_append]; rfl)
        clear hdr hsm hlen hlen2 hpk
        generalize (⟨(lineL l[k]).toArray⟩ : ByteArray) = t at *
        obtain ⟨r, hr⟩ : ∃ r, (⟨(textL (l.drop (k + 1))).toArray⟩ : ByteArray) = r := ⟨_, rfl⟩
        rw [hr] at CU
        have HR := Lib.hid hr
        clear hr
        generalize backE l[k] = eb at *
        go_wp2_with fail
        all_goals (try (exfalso; go_light; omega))
        refine (CU.out _).mono ?_
        rintro e w2 ⟨rfl, hg⟩
        have HO2 := Lib.hid (owns_later HO.out hg)
        have HE2 := Lib.hid (HE.out.later hg)
        have HG2 := Lib.hid (HG.out.trans (hg.mono hwl))
        clear hg
        go_wp2_with fail
        refine (RD.out _).mono ?_
        rintro e w3 ⟨a, cap, nm, rfl, hnm, hby, hg⟩
        have HO3 := Lib.hid (owns_later HO2.out hg)
        have HE3 := Lib.hid (HE2.out.later hg)
        have HG3 := Lib.hid (HG2.out.trans (hg.mono HG2.out.size))
        have HEN := Lib.hid (HE3.out.snoc hnm hby)
        clear hg hby hnm
        go_wp2_with (at_builtin; go_loud (refine wpList_append_own _ rfl _ _ 24 rfl w.heap.size 45 i0 _ 3 48 Try.underlying24 hi hz0 hz1 hz2 rfl (by decide) _ _ _ rfl (owns_later HO3.out ?b0) ⟨w3.heap.size + 1, 0, none⟩ 1 1 [.int .i64 eb.kind, .slice a eb.bytes.length cap, .string nm] rfl rfl ?b1 ?c2 ?c3 ?c4 ?c5 ?_))
        case b0 => repeat (first | with_reducible exact Below.refl _ _ | ((with_reducible refine Below.setCell ?_ ?_ _); rotate_left; focus (first | (simp; done) | (simp; omega) | omega)) | ((with_reducible refine Below.alloc ?_ ?_ _); rotate_left; focus (first | (simp; done) | (simp; omega) | omega)) | (with_reducible refine Below.drew ?_))
        case b1 =>
          intro j u hj
          match j, hj with
          | 0, hj => simp at hj; subst hj; simp [Addr.add]
          | 1, hj => simp at hj; subst hj; simp [Addr.add]
          | 2, hj => simp at hj; subst hj; simp [Addr.add]
        case c2 => intro u hu; simp at hu; rcases hu with rfl | rfl | rfl <;> rfl
        case c3 => unfold maxLen; omega
        case c4 => omega
        case c5 => have := HG3.out.size; simp; omega
        intro v' w5 hown' hgrow _
        have hb5 : Below w.heap.size w w5 := by
          refine Below.grown ?_ hgrow ?_ (fun q hq => (HO3.out.lt q hq).1)
          · exact (HG3.out.alloc HG3.out.size _).alloc (by have := HG3.out.size; simp; omega) _
          · have := HG3.out.size; simp; omega
        have he5 : EvTy w5 (xs ++ [.int .i64 eb.kind, .slice a eb.bytes.length cap, .string nm]) ((l.take (k + 1)).map backE) := by
          rw [HB1.out]
          refine EvTy.kept (HEN.out.later ?_) (owns_later HO3.out ?_) (by decide) hgrow
          · repeat (first | with_reducible exact Below.refl _ _ | ((with_reducible refine Below.setCell ?_ ?_ _); rotate_left; focus (first | (simp; done) | (simp; omega) | omega)) | ((with_reducible refine Below.alloc ?_ ?_ _); rotate_left; focus (first | (simp; done) | (simp; omega) | omega)) | (with_reducible refine Below.drew ?_))
          · repeat (first | with_reducible exact Below.refl _ _ | ((with_reducible refine Below.setCell ?_ ?_ _); rotate_left; focus (first | (simp; done) | (simp; omega) | omega)) | ((with_reducible refine Below.alloc ?_ ?_ _); rotate_left; focus (first | (simp; done) | (simp; omega) | omega)) | (with_reducible refine Below.drew ?_))
        have HO5 := Lib.hid hown'; have HB5 := Lib.hid hb5; have HE5 := Lib.hid he5
        clear hown' hgrow hb5 he5
        go_wp2_with fail
        all_goals (try (exfalso; go_light; omega))
        go_roundg (l.length - (k + 1))
        case measure => rw [HK.out]; omega
        case rel => exact ⟨k + 1, _, rfl, by omega, by rw [HR.out], by go_num, HO5.out, HE5.out, HP1.out, HB5.out⟩
      · have RD := Lib.hid (fun W => read_no l[k] W hpk)
        have HPN := Lib.hid (plainK_no hlt hpk)
        clear hdr hsm hlen hlen2 hpk
        generalize (⟨(lineL l[k]).toArray⟩ : ByteArray) = t at *
        generalize (⟨(textL (l.drop (k + 1))).toArray⟩ : ByteArray) = r at *
        go_wp2_with fail
        all_goals (try (exfalso; go_light; omega))
        refine (CU.out _).mono ?_
        rintro e w2 ⟨rfl, hg⟩
        have HG2 := Lib.hid (HG.out.trans (hg.mono hwl))
        clear hg
        go_wp2_with fail
        refine (RD.out _).mono ?_
        rintro e w3 ⟨rfl, hg⟩
        have HG3 := Lib.hid (HG2.out.trans (hg.mono HG2.out.size))
        clear hg
        go_wp2_with fail
        refine bodyPost_ret (v := .tuple #[.slice none 0 0, .int .i64 (k : Int), .int .i64 3]) (by simp [results, Try.results18, go_sem]) rfl ⟨_, _, _, rfl, fun h => ?_, fun _ => ⟨rfl, rfl⟩, ?_⟩
        · rw [HPN.out] at h; cases h
        · exact HG3.out.alloc HG3.out.size _
    · have hkl : k = l.length := by omega
      have hp := HP.out
      rw [hkl, List.take_length] at hp
      have hs0 : (textL (l.drop k)) = [] := by rw [hkl, List.drop_length]; rfl
      rw [hs0]
      have hev := evs_of_owns HO.out (HE.out).cells
      rw [hkl, List.take_length] at hev
      have HEV := Lib.hid hev
      have HP2 := Lib.hid hp
      clear hp hs0 hev hkl
      go_wp2_with fail
      all_goals (try (exfalso; go_light; omega))
      refine bodyPost_ret (v := .tuple #[u5, .int .i64 0, .int .i64 0]) (by simp [results, Try.results18, go_sem]) rfl ⟨_, _, _, rfl, fun _ => ⟨rfl, rfl, HEV.out⟩, fun h => ?_, HG.out⟩
      rw [HP2.out] at h; cases h
end Go.Proofs.Ytffmkmhnhecmnaa
