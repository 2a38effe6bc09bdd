/- Text cut in two. -/
import Derived.Test.YtffmkmhnhecmnaaEvAwake
import Derived.Test.YtffmkmhnhecmnaaEvBack
import Derived.BigQuiet
namespace Go.Proofs.Ytffmkmhnhecmnaa
open Go.RowKit
set_option linter.unusedVariables false
set_option maxRecDepth 100000 in
theorem slcut_yes (s : ByteArray) (c : UInt8) (n : Nat) (w : World) (hi : Lib.indexByte s.data.toList c = (n : Int)) (hn : n < s.size) (hs : s.size ≤ 1000000) :
    Calls Try.prog 32 #[.string s, .string ⟨#[c]⟩] w fun e w' => e = .returned (.tuple #[.string (s.extract 0 n), .string (s.extract (n + 1) s.size), .bool true]) ∧ Below w.heap.size w w' := by
  have IX := Lib.hid (fun W => Try.stringslite_Index_one s c W)
  rw [hi] at IX
  have h1 : (⟨#[c]⟩ : ByteArray).size = 1 := rfl
  clear hi
  go_enter Try.func32, Try.ntmps32
  go_wp2_with fail
  refine (IX.out _).mono ?_
  rintro e w1 ⟨rfl, rfl⟩
  go_wp2_with fail
  go_quiet (fail)
  go_wp2_with fail
  exact bodyPost_ret (v := .tuple #[.string (s.extract 0 n), .string (s.extract (n + 1) s.size), .bool true]) (by simp [results, Try.results32, go_sem]) rfl ⟨rfl, ⟨rfl, rfl, rfl, Nat.le_refl _, fun _ _ => rfl⟩⟩
set_option maxRecDepth 100000 in
theorem slcut_no (s : ByteArray) (c : UInt8) (w : World) (hi : Lib.indexByte s.data.toList c = -1) :
    Calls Try.prog 32 #[.string s, .string ⟨#[c]⟩] w fun e w' => e = .returned (.tuple #[.string s, .string ⟨#[]⟩, .bool false]) ∧ Below w.heap.size w w' := by
  have IX := Lib.hid (fun W => Try.stringslite_Index_one s c W)
  rw [hi] at IX
  clear hi
  go_enter Try.func32, Try.ntmps32
  go_wp2_with fail
  refine (IX.out _).mono ?_
  rintro e w1 ⟨rfl, rfl⟩
  go_wp2_with fail
  exact bodyPost_ret (v := .tuple #[.string s, .string ⟨#[]⟩, .bool false]) (by simp [results, Try.results32, go_sem]) rfl ⟨rfl, Below.refl _ _⟩
set_option maxRecDepth 100000 in
theorem cut_of (s c a b : ByteArray) (f : Bool) (w : World) (h : Calls Try.prog 32 #[.string s, .string c] w fun e w' => e = .returned (.tuple #[.string a, .string b, .bool f]) ∧ Below w.heap.size w w') :
    Calls Try.prog 25 #[.string s, .string c] w fun e w' => e = .returned (.tuple #[.string a, .string b, .bool f]) ∧ Below w.heap.size w w' := by
  have H := Lib.hid h
  clear h
  go_enter Try.func25, Try.ntmps25
  go_wp2_with fail
  refine H.out.mono ?_
  rintro e w1 ⟨rfl, hg⟩
  have HG := Lib.hid hg
  clear hg
  go_wp2_with fail
  exact bodyPost_ret (v := .tuple #[.string a, .string b, .bool f]) (by simp [results, Try.results25, go_sem]) rfl ⟨rfl, HG.out⟩
theorem extract_l (l : List UInt8) (a b : Nat) (h : b ≤ l.length) : (⟨l.toArray⟩ : ByteArray).extract a b = ⟨((l.take b).drop a).toArray⟩ := by
  apply ByteArray.ext
  simp [List.drop_take]
theorem cut_any (l r : List UInt8) (c : UInt8) (w : World) (h : ∀ b, b ∈ l → b ≠ c) (hs : (l ++ c :: r).length ≤ 1000000) :
    Calls Try.prog 25 #[.string ⟨(l ++ c :: r).toArray⟩, .string ⟨#[c]⟩] w fun e w' => e = .returned (.tuple #[.string ⟨l.toArray⟩, .string ⟨r.toArray⟩, .bool true]) ∧ Below w.heap.size w w' := by
  have hz : (⟨(l ++ c :: r).toArray⟩ : ByteArray).size = (l ++ c :: r).length := by show Array.size _ = _; simp
  have hc := slcut_yes ⟨(l ++ c :: r).toArray⟩ c l.length w (index_at l r c h) (by rw [hz]; simp) (by rw [hz]; exact hs)
  rw [extract_l _ _ _ (by simp), extract_l _ _ _ (by rw [hz]; exact Nat.le_refl _)] at hc
  rw [hz, List.take_length] at hc
  rw [show ((l ++ c :: r).take l.length).drop 0 = l by simp, show (l ++ c :: r).drop (l.length + 1) = r by simp] at hc
  exact cut_of _ _ _ _ _ w hc
theorem cut_none (l : List UInt8) (c : UInt8) (w : World) (h : ∀ b, b ∈ l → b ≠ c) :
    Calls Try.prog 25 #[.string ⟨l.toArray⟩, .string ⟨#[c]⟩] w fun e w' => e = .returned (.tuple #[.string ⟨l.toArray⟩, .string ⟨#[]⟩, .bool false]) ∧ Below w.heap.size w w' :=
  cut_of _ _ _ _ _ w (slcut_no ⟨l.toArray⟩ c w (index_none l c h))
end Go.Proofs.Ytffmkmhnhecmnaa
