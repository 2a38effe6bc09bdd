/- Both lines of an event. -/
import Derived.Test.YtffmkmhnhecmnaaRefQuote
import Derived.Laws.Concat
namespace Go.Proofs.Ytffmkmhnhecmnaa
open Go.RowKit
theorem str_append (a : List UInt8) (l : List UInt8) : ((⟨a.toArray⟩ : ByteArray) ++ ⟨l.toArray⟩) = ⟨(a ++ l).toArray⟩ := by
  apply ByteArray.ext
  simp
theorem str_size (l : List UInt8) : (⟨l.toArray⟩ : ByteArray).size = l.length := by simp [ByteArray.size]
theorem quoteL_len (l : List UInt8) : (quoteL l).length ≤ 3 * l.length + 2 := by
  unfold quoteL
  have := qAll_len l
  simp only [List.length_cons, List.length_append, List.length_nil]
  omega
set_option maxRecDepth 100000 in
set_option maxHeartbeats 400000 in
theorem line_any (k : Int) (v : Value) (nm : ByteArray) (bs : List UInt8) (w : World) (hb : BytesAt w v bs) (hbs : bs.length ≤ 1000000) (hnm : nm.size ≤ 1000000) :
    Calls Try.prog 21 #[.agg #[.int .i64 k, v, .string nm]] w fun e w' => e = .returned (.string ⟨(lineL ⟨k, bs, nm.data.toList⟩).toArray⟩) ∧ Below w.heap.size w w' := by
  have HB := Lib.hid hb
  obtain ⟨a, cap, hv, h1, h2, h3, -⟩ := hb
  subst hv
  clear h1 h2 h3
  by_cases k1 : k = 1
  · subst k1
    have E : Hid (lineL ⟨1, bs, nm.data.toList⟩ = sOut ++ quoteL bs) := Lib.hid (by simp [lineL])
    rw [E.out]
    have hcv : ∀ o, (convert 33 9 (.slice a bs.length cap)).run Try.prog (w.alloc o) = .ok (.string ⟨bs.toArray⟩) (w.alloc o) := fun o => run_string_of (HB.out.later ((Below.refl _ _).alloc (Nat.le_refl _) _))
    have Q := Lib.hid (quote_any ⟨bs.toArray⟩)
    have hsz : ¬ ((⟨#[111, 117, 116, 32]⟩ : ByteArray).size + (⟨(quoteL bs).toArray⟩ : ByteArray).size > 9223372036854775807) := by
      have hq := quoteL_len bs
      rw [show (⟨(quoteL bs).toArray⟩ : ByteArray).size = (quoteL bs).length from str_size _]
      show ¬ (4 + (quoteL bs).length > 9223372036854775807)
      omega
    go_enter Try.func21, Try.ntmps21
    go_wp2_with fail
    refine (Q.out _ (by rw [str_size]; exact hbs)).mono ?_
    rintro e w1 ⟨rfl, hg⟩
    have HG := Lib.hid hg; clear hg
    go_wp2_with fail
    go_ret
    exact ⟨congrArg (fun x => Ending.returned (.string x)) (str_append sOut _), ((Below.refl _ _).alloc (Nat.le_refl _) _).trans (HG.out.mono (by simp))⟩
  by_cases k2 : k = 2
  · subst k2
    have E : Hid (lineL ⟨2, bs, nm.data.toList⟩ = sFault ++ quoteL nm.data.toList) := Lib.hid (by simp [lineL])
    rw [E.out]
    have Q := Lib.hid (quote_any nm)
    have hsz : ¬ ((⟨#[102, 97, 117, 108, 116, 32]⟩ : ByteArray).size + (⟨(quoteL nm.data.toList).toArray⟩ : ByteArray).size > 9223372036854775807) := by
      have hq := quoteL_len nm.data.toList
      rw [len_ba] at hq
      rw [show (⟨(quoteL nm.data.toList).toArray⟩ : ByteArray).size = (quoteL nm.data.toList).length from str_size _]
      show ¬ (6 + (quoteL nm.data.toList).length > 9223372036854775807)
      omega
    go_enter Try.func21, Try.ntmps21
    go_wp2_with fail
    refine (Q.out _ hnm).mono ?_
    rintro e w1 ⟨rfl, hg⟩
    have HG := Lib.hid hg; clear hg
    go_wp2_with fail
    go_ret
    exact ⟨congrArg (fun x => Ending.returned (.string x)) (str_append sFault _), ((Below.refl _ _).alloc (Nat.le_refl _) _).trans (HG.out.mono (by simp))⟩
  by_cases k3 : k = 3
  · subst k3
    have E : Hid (lineL ⟨3, bs, nm.data.toList⟩ = sSaved) := Lib.hid (by simp [lineL])
    rw [E.out]
    go_enter Try.func21, Try.ntmps21
    go_wp2_with fail
    go_ret
    exact ⟨rfl, (Below.refl _ _).alloc (Nat.le_refl _) _⟩
  · have E : Hid (lineL ⟨k, bs, nm.data.toList⟩ = sNone) := Lib.hid (by simp [lineL, k1, k2, k3])
    rw [E.out]
    have q1 : (k == 1) = false := by simpa using k1
    have q2 : (k == 2) = false := by simpa using k2
    have q3 : (k == 3) = false := by simpa using k3
    clear k1 k2 k3
    go_enter Try.func21, Try.ntmps21
    go_wp2_with fail
    go_ret
    exact ⟨rfl, (Below.refl _ _).alloc (Nat.le_refl _) _⟩
set_option maxRecDepth 100000 in
set_option maxHeartbeats 400000 in
theorem rline_any (k : Int) (v : Value) (nm : ByteArray) (bs : List UInt8) (w : World) (hb : BytesAt w v bs) (hbs : bs.length ≤ 1000000) (hnm : nm.size ≤ 1000000) :
    Calls Try.prog 20 #[.agg #[.int .i64 k, v, .string nm]] w fun e w' => e = .returned (.string ⟨(lineL ⟨k, bs, nm.data.toList⟩).toArray⟩) ∧ Below w.heap.size w w' := by
  have HB := Lib.hid hb
  obtain ⟨a, cap, hv, h1, h2, h3, -⟩ := hb
  subst hv
  clear h1 h2 h3
  by_cases k1 : k = 1
  · subst k1
    have E : Hid (lineL ⟨1, bs, nm.data.toList⟩ = sOut ++ quoteL bs) := Lib.hid (by simp [lineL])
    rw [E.out]
    have hcv : ∀ o, (convert 33 9 (.slice a bs.length cap)).run Try.prog (w.alloc o) = .ok (.string ⟨bs.toArray⟩) (w.alloc o) := fun o => run_string_of (HB.out.later ((Below.refl _ _).alloc (Nat.le_refl _) _))
    have Q := Lib.hid (rquote_any ⟨bs.toArray⟩)
    have hsz : ¬ ((⟨#[111, 117, 116, 32]⟩ : ByteArray).size + (⟨(quoteL bs).toArray⟩ : ByteArray).size > 9223372036854775807) := by
      have hq := quoteL_len bs
      rw [show (⟨(quoteL bs).toArray⟩ : ByteArray).size = (quoteL bs).length from str_size _]
      show ¬ (4 + (quoteL bs).length > 9223372036854775807)
      omega
    go_enter Try.func20, Try.ntmps20
    go_wp2_with fail
    refine (Q.out _ (by rw [str_size]; exact hbs)).mono ?_
    rintro e w1 ⟨rfl, hg⟩
    have HG := Lib.hid hg; clear hg
    go_wp2_with fail
    go_ret
    exact ⟨congrArg (fun x => Ending.returned (.string x)) (str_append sOut _), ((Below.refl _ _).alloc (Nat.le_refl _) _).trans (HG.out.mono (by simp))⟩
  by_cases k2 : k = 2
  · subst k2
    have E : Hid (lineL ⟨2, bs, nm.data.toList⟩ = sFault ++ quoteL nm.data.toList) := Lib.hid (by simp [lineL])
    rw [E.out]
    have Q := Lib.hid (rquote_any nm)
    have hsz : ¬ ((⟨#[102, 97, 117, 108, 116, 32]⟩ : ByteArray).size + (⟨(quoteL nm.data.toList).toArray⟩ : ByteArray).size > 9223372036854775807) := by
      have hq := quoteL_len nm.data.toList
      rw [len_ba] at hq
      rw [show (⟨(quoteL nm.data.toList).toArray⟩ : ByteArray).size = (quoteL nm.data.toList).length from str_size _]
      show ¬ (6 + (quoteL nm.data.toList).length > 9223372036854775807)
      omega
    go_enter Try.func20, Try.ntmps20
    go_wp2_with fail
    refine (Q.out _ hnm).mono ?_
    rintro e w1 ⟨rfl, hg⟩
    have HG := Lib.hid hg; clear hg
    go_wp2_with fail
    go_ret
    exact ⟨congrArg (fun x => Ending.returned (.string x)) (str_append sFault _), ((Below.refl _ _).alloc (Nat.le_refl _) _).trans (HG.out.mono (by simp))⟩
  by_cases k3 : k = 3
  · subst k3
    have E : Hid (lineL ⟨3, bs, nm.data.toList⟩ = sSaved) := Lib.hid (by simp [lineL])
    rw [E.out]
    go_enter Try.func20, Try.ntmps20
    go_wp2_with fail
    go_ret
    exact ⟨rfl, (Below.refl _ _).alloc (Nat.le_refl _) _⟩
  · have E : Hid (lineL ⟨k, bs, nm.data.toList⟩ = sNone) := Lib.hid (by simp [lineL, k1, k2, k3])
    rw [E.out]
    have q1 : (k == 1) = false := by simpa using k1
    have q2 : (k == 2) = false := by simpa using k2
    have q3 : (k == 3) = false := by simpa using k3
    clear k1 k2 k3
    go_enter Try.func20, Try.ntmps20
    go_wp2_with fail
    go_ret
    exact ⟨rfl, (Below.refl _ _).alloc (Nat.le_refl _) _⟩
end Go.Proofs.Ytffmkmhnhecmnaa
