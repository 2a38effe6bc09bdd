/- The eighth rule: each object fits its class. The sixth rule: the classes' tower. The ninth rule: each class's methods and fields. The checks, all nine. Memory whose objects were turned is as sound as it was: the plain law. -/
import Derived.Test.YtibopjjicfiimaaGreatDoorSoK
namespace Go.Proofs.YtibopjjicfiimaaGreatDoor
open Go.RowKit Go.Maps
set_option linter.unusedVariables false
def fit5 (S : Nat → Bool) (M : Nat → Nat) (c : Nat) : Bool := decide (fmtX S M (clsX S M c) = some (5, 0))
/-- an object, as its class says -/
def fitX (S : Nat → Bool) (M : Nat → Nat) (cls : List Nat) (x : Nat) : Bool :=
  decide (clsX S M x ∈ cls.flatMap (fun c => [c, clsX S M c])) && match fmtX S M (clsX S M x) with | some (a, b) => decide (kndX S M x = b) && !(decide (b = 0) && !decide (sizX S M x = a)) | none => false
def fitB (S : Nat → Bool) (M : Nat → Nat) (N : Nat) (cls : List Nat) : Bool := cls.all (fit5 S M) && allO N S (fitX S M cls)
theorem fitB_def (S : Nat → Bool) (M : Nat → Nat) (N : Nat) (cls : List Nat) : fitB S M N cls = (cls.all (fit5 S M) && allO N S (fitX S M cls)) := rfl
section
variable {w : World} {B h N free L root : Nat} {S : Nat → Bool} {M : Nat → Nat} {sp : Nat → Nat} {cv : Value}
/-- a class's format, in both its ways -/
theorem format_is (x : Nat) (k : Lk w B h N free S M L root sp cv) (hx : x < 18446744073709551616) :
    Calls Tryz.prog 65 #[.pointer (some ⟨L, 0, none⟩), .int .u64 (x : Int)] w fun e w' => ∃ a b c, e = .returned (.tuple #[.int .i64 a, .int .i64 b, .bool c]) ∧ Below w.heap.size w w' ∧ (c = true → fmtX S M x = some (a, b)) ∧ (c = false → fmtX S M x = none) := by
  refine (format_any x k hx).mono fun e w' hh => ?_
  cases hf : fmtX S M x with
  | none => rw [hf] at hh; exact ⟨0, 0, false, hh.1, hh.2, fun h => (by cases h), fun _ => rfl⟩
  | some p => obtain ⟨a, b⟩ := p; rw [hf] at hh; exact ⟨a, b, true, hh.1, hh.2, fun _ => rfl, fun h => (by cases h)⟩
set_option maxRecDepth 100000 in
set_option maxHeartbeats 6400000 in
theorem fitting_any (cls : List Nat) (k : Lk w B h N free S M L root sp cv) (hcv : WordsAt w cv cls) (hcl : ∀ c, c ∈ cls → c < 18446744073709551616) (hln : cls.length ≤ 6000) :
    Calls Tryz.prog 28 #[.pointer (some ⟨L, 0, none⟩)] w fun e w' => e = .returned (.bool (fitB S M N cls)) ∧ Below w.heap.size w w' := by
  have K := Lib.hid k
  have HCV := Lib.hid hcv
  have HCL := Lib.hid hcl
  have HDEF := Lib.hid (fitB_def S M N cls)
  obtain ⟨va, vc, rfl, -⟩ := hcv.get
  have y0 : (w.alloc (.map #[] 0)).cell? ⟨L, 26, none⟩ = some (.slice va cls.length vc) := (World.cell?_alloc_past _ _ _ k.at_.lt).trans k.at_.cls
  have HM0 := Lib.hid (SetW.made w)
  have HB0 := Lib.hid (show Below w.heap.size w (w.alloc (.map #[] 0)) from (Below.refl _ w).alloc (Nat.le_refl _) _)
  have hmm := @run_makeMap Tryz.prog
  have hN := k.n
  clear k hcv hcl
  go_enter Tryz.func28, Tryz.ntmps28
  go_wp2_with fail
  go_loopg [21] cls.length (fun gg s21 wr => ∃ k n : Nat, gg = cls.length - k ∧ k ≤ cls.length ∧ n = 2 * k ∧ s21 = .int .i64 (k : Int) ∧ Below w.heap.size w wr ∧ SetW wr w.heap.size (fun y => decide (y ∈ (cls.take k).flatMap (fun c => [c, clsX S M c]))) n ∧ (cls.take k).all (fit5 S M) = true)
  case atStart => exact ⟨0, 0, rfl, by omega, rfl, rfl, HB0.out, set_of (w' := w) HM0.out (fun y => by simp), rfl⟩
  case round =>
    obtain ⟨k, n, hgk, hk, hnk, rfl, hbr, hset, hpf⟩ := hrel
    have HGK := Lib.hid hgk; have HBR := Lib.hid hbr; have HSET := Lib.hid hset; have HPF := Lib.hid hpf
    clear hgk hset hpf
    by_cases hlt : k < cls.length
    · obtain ⟨va', vc', hue, -, -, hcu⟩ := (HCV.out.later hbr).get
      simp only [Value.slice.injEq, true_and] at hue
      obtain ⟨rfl, rfl⟩ := hue
      obtain ⟨xb, xo, rfl, hxl, hxc⟩ := hcu k hlt
      have hc := HCL.out _ (List.getElem_mem hlt)
      have hmem := List.getElem_mem hlt
      have ht : cls.take (k + 1) = cls.take k ++ [cls[k]] := List.take_succ_eq_append_getElem hlt
      obtain ⟨c, hce⟩ : ∃ c, cls[k] = c := ⟨_, rfl⟩
      rw [hce] at hxc hc ht hmem
      have HT := Lib.hid ht
      have HBAD := Lib.hid (fun (hh : fit5 S M c = false) => show fitB S M N cls = false from by
        rw [HDEF.out, Bool.eq_false_iff]
        intro ha
        rw [Bool.and_eq_true] at ha
        have := List.all_eq_true.1 ha.1 c hmem
        rw [hh] at this; cases this)
      have HF5 := Lib.hid (show fit5 S M c = decide (fmtX S M (clsX S M c) = some (5, 0)) from rfl)
      have MT := Lib.hid (fun W (hW : Below w.heap.size w W) => meta_any c (K.out.later hW) hc)
      have hm := clsX_lt K.out.c c
      have HMT := Lib.hid (show (cls.take (k + 1)).flatMap (fun c => [c, clsX S M c]) = (cls.take k).flatMap (fun c => [c, clsX S M c]) ++ [c, clsX S M c] by rw [ht, List.flatMap_append]; rfl)
      obtain ⟨m, hme⟩ : ∃ m, clsX S M c = m := ⟨_, rfl⟩
      rw [hme] at MT hm HF5 HMT
      have MT1 := Lib.hid (MT.out wr hbr)
      clear hbr hcu hce ht hme hmem
      go_wp2_with fail
      refine MT1.out.mono ?_
      rintro e w1 ⟨rfl, hg1⟩
      have HB1 := Lib.hid (HBR.out.trans (hg1.mono HBR.out.size))
      obtain ⟨w2, hrun1, hset2, hgr2⟩ := (HSET.out.later hg1).store hc (by omega)
      obtain ⟨w3, hrun2, hset3, hgr3⟩ := hset2.store hm (by omega)
      have HB2 := Lib.hid (show Below w.heap.size w w2 from HB1.out.grown hgr2 HB1.out.size (fun q hq => by injection hq with hq; omega))
      have HB3 := Lib.hid (show Below w.heap.size w w3 from HB2.out.grown hgr3 HB2.out.size (fun q hq => by injection hq with hq; omega))
      have HS3 := Lib.hid (set_of (w' := w) hset3 (g := fun y => decide (y ∈ (cls.take (k + 1)).flatMap (fun c => [c, clsX S M c]))) (fun y => by
        rw [HMT.out, Bool.eq_iff_iff]
        simp only [Bool.or_eq_true, decide_eq_true_eq, List.mem_append, List.mem_cons, List.not_mem_nil, or_false]
        exact ⟨fun h => h.elim (fun h => Or.inr (Or.inr h)) (fun h => h.elim (fun h => Or.inr (Or.inl h)) Or.inl), fun h => h.elim (fun h => Or.inr (Or.inr h)) (fun h => h.elim (fun h => Or.inr (Or.inl h)) Or.inl)⟩))
      have MT3 := Lib.hid (MT.out w3 HB3.out)
      clear hg1 MT1 hxc hset2 hset3 hgr2 hgr3
      go_wp2_with fail
      refine MT3.out.mono ?_
      rintro e w4 ⟨rfl, hg4⟩
      have HB4 := Lib.hid (HB3.out.trans (hg4.mono HB3.out.size)); have HS4 := Lib.hid (HS3.out.later hg4)
      have FM := Lib.hid (format_is m (K.out.later HB4.out) hm)
      clear hg4 MT3 hrun1 hrun2
      go_wp2_with fail
      refine FM.out.mono ?_
      rintro e w5 ⟨a, b, ok, rfl, hg5, hy, hn⟩
      have HB5 := Lib.hid (HB4.out.trans (hg5.mono HB4.out.size)); have HS5 := Lib.hid (HS4.out.later hg5)
      have HY := Lib.hid hy; have HNO := Lib.hid hn
      clear hg5 FM hy hn
      cases ok with
      | false =>
        have HF := Lib.hid (HBAD.out (by rw [HF5.out, HNO.out rfl]; rfl))
        go_wp2_with fail
        go_ret
        exact ⟨by rw [HF.out]; rfl, HB5.out⟩
      | true =>
        have HYY := Lib.hid (HY.out rfl)
        by_cases ha : a = 5
        · by_cases hb : b = 0
          · subst ha hb
            have HF1 := Lib.hid (show (cls.take (k + 1)).all (fit5 S M) = true by rw [HT.out, List.all_append, HPF.out]; simp [HF5.out, HYY.out])
            go_wp2_with fail
            go_roundg (cls.length - (k + 1))
            case measure => rw [HGK.out]; omega
            case rel => exact ⟨k + 1, n + 1 + 1, rfl, by omega, by omega, by go_num, HB5.out, HS5.out, HF1.out⟩
          · have HF := Lib.hid (HBAD.out (by rw [HF5.out, HYY.out, decide_eq_false]; intro e; injection e with e; injection e with e1 e2; exact hb e2))
            subst ha
            have q2 : (b != 0) = true := by simpa using hb
            go_wp2_with fail
            go_ret
            exact ⟨by rw [HF.out]; rfl, HB5.out⟩
        · have HF := Lib.hid (HBAD.out (by rw [HF5.out, HYY.out, decide_eq_false]; intro e; injection e with e; injection e with e1 e2; exact ha e1))
          have q2 : (a != 5) = true := by simpa using ha
          go_wp2_with fail
          go_ret
          exact ⟨by rw [HF.out]; rfl, HB5.out⟩
    · obtain rfl : k = cls.length := by omega
      have hpf := HPF.out
      rw [List.take_length] at hpf
      have HDEF2 := Lib.hid (show fitB S M N cls = allO N S (fitX S M cls) by rw [HDEF.out, hpf]; rfl)
      have HSE := HSET.out
      rw [List.take_length] at HSE
      have HSEH := Lib.hid HSE
      have kr := K.out.later hbr
      have y1 := kr.at_.heap
      have FI := Lib.hid kr.first
      clear kr hpf HSE hbr
      go_wp2_with fail
      refine FI.out.mono ?_
      rintro e w3 ⟨x0, rfl, hx0, hg3⟩
      have HX0 := Lib.hid (done_first (p := fitX S M cls) hx0); have HG3 := Lib.hid (HBR.out.trans (hg3.mono HBR.out.size)); have HS3 := Lib.hid (HSEH.out.later hg3)
      clear hx0 hg3 FI y1
      go_wp2_with fail
      go_loopg [9] (N + 1) (fun gg s9 wr => ∃ x : Nat, s9 = .int .u64 (x : Int) ∧ Below w.heap.size w wr ∧ SetW wr w.heap.size (fun y => decide (y ∈ cls.flatMap (fun c => [c, clsX S M c]))) n ∧ ((x = 0 ∧ allO N S (fitX S M cls) = true) ∨ ∃ k : Nat, x = k * 2 ∧ k < N ∧ S k = true ∧ N - k ≤ gg ∧ Done S (fitX S M cls) k))
      case atStart =>
        refine ⟨x0, rfl, HG3.out, HS3.out, ?_⟩
        rcases HX0.out with h | ⟨k, h1, h2, h3, h4⟩
        · exact Or.inl h
        · exact Or.inr ⟨k, h1, h2, h3, by omega, h4⟩
      case round =>
        obtain ⟨x, rfl, hbr, hset, hx⟩ := hrel
        have HBR := Lib.hid hbr; have HSET := Lib.hid hset
        rcases hx with ⟨rfl, hall⟩ | ⟨k, rfl, hk, hkS, hgk, hdone⟩
        · have HALL := Lib.hid hall
          clear hbr hall hset
          go_wp2_with fail
          go_ret
          exact ⟨by rw [HDEF2.out, HALL.out]; rfl, HBR.out⟩
        · have HGK := Lib.hid hgk; have HKS := Lib.hid hkS
          have kr := K.out.later hbr
          have y0 := kr.at_.heap
          obtain ⟨hp, -, hk0, hk1⟩ := K.out.ptr hkS
          have HD := Lib.hid (head_any B h N free (k * 2) S M wr kr.H kr.c (by omega))
          simp only [hp, if_true] at HD
          have HBAD := Lib.hid (fun hm : fitX S M cls (k * 2) = false => show fitB S M N cls = false from HDEF2.out.trans (done_bad (p := fitX S M cls) hk hkS hm))
          have HNXT := Lib.hid (fun x' (hm : fitX S M cls (k * 2) = true) (hf : IsFrom N S (k + 1 : Int) x') => done_next (p := fitX S M cls) hdone hm hf)
          have HFX := Lib.hid (show fitX S M cls (k * 2) = (decide (clsX S M (k * 2) ∈ cls.flatMap (fun c => [c, clsX S M c])) && match fmtX S M (clsX S M (k * 2)) with | some (a, b) => decide (kndX S M (k * 2) = b) && !(decide (b = 0) && !decide (sizX S M (k * 2) = a)) | none => false) from rfl)
          have hm := clsX_lt K.out.c (k * 2)
          obtain ⟨xk, hxk⟩ : ∃ xk, k * 2 = xk := ⟨_, rfl⟩
          have HXK := Lib.hid hxk
          rw [hxk] at HD HBAD HNXT HFX hm ⊢
          have hx0 : xk ≠ 0 := by omega
          clear hbr hgk hkS hdone hp kr hxk hset
          generalize clsX S M xk = c at *
          generalize kndX S M xk = vk at *
          generalize sizX S M xk = vs at *
          generalize hH (infX S M xk) = vh at *
          generalize mrkX S M xk = vm at *
          generalize fitX S M cls xk = fx at *
          go_wp2_with fail
          refine HD.out.mono ?_
          rintro e w2 ⟨rfl, hg2⟩
          have HB2 := Lib.hid (HBR.out.trans (hg2.mono HBR.out.size)); have HS2 := Lib.hid (HSET.out.later hg2)
          clear hg2 HD y0
          obtain ⟨w3, hw3⟩ : ∃ w3, w3 = w2.alloc (.cells #[.int .u64 (c : Int), .int .i64 vk, .int .i64 vs, .int .u32 vh, .bool vm] 119) := ⟨_, rfl⟩
          have hx3 : w3.heap[w2.heap.size]? = some (.cells #[.int .u64 (c : Int), .int .i64 vk, .int .i64 vs, .int .u32 vh, .bool vm] 119 (0, 0)) := by rw [hw3]; exact heap_alloc_new w2 _
          have hb3 : Below w2.heap.size w2 w3 := by rw [hw3]; exact (Below.refl _ w2).alloc (Nat.le_refl _) _
          have HB3 := Lib.hid (HB2.out.trans (hb3.mono HB2.out.size))
          have hl3 := (Array.getElem?_eq_some_iff.1 hx3).1
          have HX3 := Lib.hid hx3
          have z0 := cellO hx3 0
          simp at z0
          have HS3 := Lib.hid (HS2.out.later hb3)
          have lk := HS3.out.look hm
          have FM := Lib.hid (format_is c (K.out.later HB3.out) hm)
          clear hb3 hx3
          go_upto_region 14 with fail
          rw [← hw3]
          clear hw3
          cases b4 : decide (c ∈ cls.flatMap (fun c => [c, clsX S M c])) with
          | false =>
            simp only [b4] at lk
            have HF := Lib.hid (HBAD.out (by rw [HFX.out, b4]; rfl))
            clear b4
            go_wp2_with fail
            go_ret
            exact ⟨by rw [HF.out]; rfl, HB3.out⟩
          | true =>
            simp only [b4] at lk
            have HFX2 := Lib.hid (show fx = (match fmtX S M c with | some (a, b) => decide (vk = b) && !(decide (b = 0) && !decide (vs = a)) | none => false) by rw [HFX.out, b4]; rfl)
            clear b4
            go_wp2_with fail
            refine FM.out.mono ?_
            rintro e w5 ⟨a, b, ok, rfl, hg5, hy, hn⟩
            have HB5 := Lib.hid (HB3.out.trans (hg5.mono HB3.out.size)); have HS5 := Lib.hid (HS3.out.later hg5)
            have HY := Lib.hid hy; have HNO := Lib.hid hn
            have hx5 := (hg5.block _ hl3).trans HX3.out
            have z1 := cellO hx5 1
            have z2 := cellO hx5 2
            simp at z1 z2
            clear hg5 FM hy hn lk z0 hx5
            cases ok with
            | false =>
              have HF := Lib.hid (HBAD.out (by rw [HFX2.out, HNO.out rfl]))
              go_wp2_with fail
              go_ret
              exact ⟨by rw [HF.out]; rfl, HB5.out⟩
            | true =>
              have HFX3 := Lib.hid (show fx = (decide (vk = b) && !(decide (b = 0) && !decide (vs = a))) by rw [HFX2.out, HY.out rfl])
              by_cases hkb : vk = b
              · subst hkb
                by_cases hk0' : vk = 0
                · subst hk0'
                  by_cases hsa : vs = a
                  · subst hsa
                    have HFT := Lib.hid (show fx = true by rw [HFX3.out]; simp)
                    have K5 := K.out.later HB5.out
                    have y0 := K5.at_.heap
                    have AF := K5.after HKS.out
                    rw [HXK.out] at AF
                    have AFH := Lib.hid AF
                    clear K5 AF
                    go_wp2_with fail
                    refine AFH.out.mono ?_
                    rintro e w6 ⟨x', rfl, hf, hg6⟩
                    have HF := Lib.hid (HNXT.out x' HFT.out hf)
                    have HB6 := Lib.hid (HB5.out.trans (hg6.mono HB5.out.size)); have HS6 := Lib.hid (HS5.out.later hg6)
                    clear hf hg6 y0
                    go_wp2_with fail
                    rcases HF.out with ⟨rfl, hall⟩ | ⟨k', rfl, h1, h2, h3, h4⟩
                    · have HALL := Lib.hid hall
                      go_roundg 0
                      case measure => have := HGK.out; omega
                      case rel => exact ⟨0, rfl, HB6.out, HS6.out, Or.inl ⟨rfl, HALL.out⟩⟩
                    · have H3 := Lib.hid h3; have H4 := Lib.hid h4
                      go_roundg (N - k')
                      case measure => have := HGK.out; omega
                      case rel => exact ⟨k' * 2, rfl, HB6.out, HS6.out, Or.inr ⟨k', rfl, h1, H3.out, Nat.le_refl _, H4.out⟩⟩
                  · have HF := Lib.hid (HBAD.out (by rw [HFX3.out]; simp [hsa]))
                    have q2 : (vs != a) = true := by simpa using hsa
                    go_wp2_with fail
                    go_ret
                    exact ⟨by rw [HF.out]; rfl, HB5.out⟩
                · have HFT := Lib.hid (show fx = true by rw [HFX3.out]; simp [hk0'])
                  have q2 : (vk == 0) = false := by simpa using hk0'
                  have K5 := K.out.later HB5.out
                  have y0 := K5.at_.heap
                  have AF := K5.after HKS.out
                  rw [HXK.out] at AF
                  have AFH := Lib.hid AF
                  clear K5 AF
                  go_wp2_with fail
                  refine AFH.out.mono ?_
                  rintro e w6 ⟨x', rfl, hf, hg6⟩
                  have HF := Lib.hid (HNXT.out x' HFT.out hf)
                  have HB6 := Lib.hid (HB5.out.trans (hg6.mono HB5.out.size)); have HS6 := Lib.hid (HS5.out.later hg6)
                  clear hf hg6 y0
                  go_wp2_with fail
                  rcases HF.out with ⟨rfl, hall⟩ | ⟨k', rfl, h1, h2, h3, h4⟩
                  · have HALL := Lib.hid hall
                    go_roundg 0
                    case measure => have := HGK.out; omega
                    case rel => exact ⟨0, rfl, HB6.out, HS6.out, Or.inl ⟨rfl, HALL.out⟩⟩
                  · have H3 := Lib.hid h3; have H4 := Lib.hid h4
                    go_roundg (N - k')
                    case measure => have := HGK.out; omega
                    case rel => exact ⟨k' * 2, rfl, HB6.out, HS6.out, Or.inr ⟨k', rfl, h1, H3.out, Nat.le_refl _, H4.out⟩⟩
              · have HF := Lib.hid (HBAD.out (by rw [HFX3.out]; simp [hkb]))
                have q2 : (vk != b) = true := by simpa using hkb
                go_wp2_with fail
                go_ret
                exact ⟨by rw [HF.out]; rfl, HB5.out⟩
end
end Go.Proofs.YtibopjjicfiimaaGreatDoor
namespace Go.Proofs.YtibopjjicfiimaaGreatDoor
open Go.RowKit Go.Maps
set_option linter.unusedVariables false
/-- up from a class: nil is met in so many steps -/
def upF (S : Nat → Bool) (M : Nat → Nat) (sp : Nat → Nat) : Nat → Nat → Bool
  | 0, c => decide (c = sp 0)
  | f + 1, c => decide (c = sp 0) || upF S M sp f (getX S M c 0)
/-- what a class's class stands under -/
def wantX (S : Nat → Bool) (M : Nat → Nat) (sp : Nat → Nat) (c : Nat) : Nat := if c = sp 5 then sp 6 else clsX S M (getX S M c 0)
def towX (S : Nat → Bool) (M : Nat → Nat) (sp : Nat → Nat) (cls : List Nat) (c : Nat) : Bool :=
  (if c = sp 5 then decide (getX S M c 0 = sp 0) else decide (getX S M c 0 ∈ cls)) && decide (getX S M (clsX S M c) 0 = wantX S M sp c) && upF S M sp (cls.length + 1) c
theorem upF_zero (S : Nat → Bool) (M : Nat → Nat) (sp : Nat → Nat) (c : Nat) : upF S M sp 0 c = decide (c = sp 0) := rfl
theorem upF_succ (S : Nat → Bool) (M : Nat → Nat) (sp : Nat → Nat) (f c : Nat) : upF S M sp (f + 1) c = (decide (c = sp 0) || upF S M sp f (getX S M c 0)) := rfl
section
variable {w : World} {B h N free L root : Nat} {S : Nat → Bool} {M : Nat → Nat} {sp : Nat → Nat} {cv : Value}
set_option maxRecDepth 100000 in
set_option maxHeartbeats 6400000 in
theorem towered_any (cls : List Nat) (k : Lk w B h N free S M L root sp cv) (hcv : WordsAt w cv cls) (hcl : ∀ c, c ∈ cls → c < 18446744073709551616) (hln : cls.length ≤ 6000) :
    Calls Tryz.prog 26 #[.pointer (some ⟨L, 0, none⟩)] w fun e w' => e = .returned (.bool (cls.all (towX S M sp cls))) ∧ Below w.heap.size w w' := by
  have K := Lib.hid k
  have HCV := Lib.hid hcv
  have HCL := Lib.hid hcl
  have HGL := Lib.hid (fun x => getX_lt k x 0)
  obtain ⟨va, vc, rfl, -⟩ := hcv.get
  have y0 : (w.alloc (.map #[] 0)).cell? ⟨L, 26, none⟩ = some (.slice va cls.length vc) := (World.cell?_alloc_past _ _ _ k.at_.lt).trans k.at_.cls
  have HM0 := Lib.hid (SetW.made w)
  have HB0 := Lib.hid (show Below w.heap.size w (w.alloc (.map #[] 0)) from (Below.refl _ w).alloc (Nat.le_refl _) _)
  have hmm := @run_makeMap Tryz.prog
  clear k hcv hcl
  go_enter Tryz.func26, Tryz.ntmps26
  go_wp2_with fail
  go_loopg [17] cls.length (fun gg s17 wr => ∃ k : Nat, gg = cls.length - k ∧ k ≤ cls.length ∧ s17 = .int .i64 (k : Int) ∧ Below w.heap.size w wr ∧ SetW wr w.heap.size (fun y => decide (y ∈ cls.take k)) k)
  case atStart => exact ⟨0, rfl, by omega, rfl, HB0.out, set_of (w' := w) HM0.out (fun y => by simp)⟩
  case round =>
    obtain ⟨k, hgk, hk, rfl, hbr, hset⟩ := hrel
    have HGK := Lib.hid hgk; have HBR := Lib.hid hbr; have HSET := Lib.hid hset
    clear hgk hset
    by_cases hlt : k < cls.length
    · obtain ⟨va', vc', hue, -, -, hcu⟩ := (HCV.out.later hbr).get
      simp only [Value.slice.injEq, true_and] at hue
      obtain ⟨rfl, rfl⟩ := hue
      obtain ⟨xb, xo, rfl, hxl, hxc⟩ := hcu k hlt
      have hc := HCL.out _ (List.getElem_mem hlt)
      have ht : cls.take (k + 1) = cls.take k ++ [cls[k]] := List.take_succ_eq_append_getElem hlt
      obtain ⟨c, hce⟩ : ∃ c, cls[k] = c := ⟨_, rfl⟩
      rw [hce] at hxc hc ht
      obtain ⟨w2, hrun1, hset2, hgr2⟩ := HSET.out.store hc (by omega)
      have HB2 := Lib.hid (show Below w.heap.size w w2 from hbr.grown hgr2 hbr.size (fun q hq => by injection hq with hq; omega))
      have HS2 := Lib.hid (set_of (w' := w) hset2 (g := fun y => decide (y ∈ cls.take (k + 1))) (fun y => by
        rw [ht, Bool.eq_iff_iff]
        simp only [Bool.or_eq_true, decide_eq_true_eq, List.mem_append, List.mem_singleton]
        exact Or.comm))
      clear hbr hcu hce ht hset2 hgr2
      go_wp2_with fail
      go_roundg (cls.length - (k + 1))
      case measure => rw [HGK.out]; omega
      case rel => exact ⟨k + 1, rfl, by omega, by go_num, HB2.out, HS2.out⟩
    · obtain rfl : k = cls.length := by omega
      have hse := HSET.out
      rw [List.take_length] at hse
      have HSE := Lib.hid hse
      have y1 := (K.out.later hbr).at_.cls
      clear hse hbr
      go_wp2_with fail
      go_loopg [29] cls.length (fun gg s29 wr => ∃ k : Nat, gg = cls.length - k ∧ k ≤ cls.length ∧ s29 = .int .i64 (k : Int) ∧ Below w.heap.size w wr ∧ SetW wr w.heap.size (fun y => decide (y ∈ cls)) cls.length ∧ (cls.take k).all (towX S M sp cls) = true)
      case atStart => exact ⟨0, rfl, by omega, rfl, HBR.out, HSE.out, rfl⟩
      case round =>
        obtain ⟨k, hgk, hk, rfl, hbr, hset, hpf⟩ := hrel
        have HGK := Lib.hid hgk; have HBR := Lib.hid hbr; have HSET := Lib.hid hset; have HPF := Lib.hid hpf
        clear hgk hset hpf y1
        by_cases hlt : k < cls.length
        · obtain ⟨va', vc', hue, -, -, hcu⟩ := (HCV.out.later hbr).get
          simp only [Value.slice.injEq, true_and] at hue
          obtain ⟨rfl, rfl⟩ := hue
          obtain ⟨xb, xo, rfl, hxl, hxc⟩ := hcu k hlt
          have hc := HCL.out _ (List.getElem_mem hlt)
          have hmem := List.getElem_mem hlt
          have ht : cls.take (k + 1) = cls.take k ++ [cls[k]] := List.take_succ_eq_append_getElem hlt
          obtain ⟨c, hce⟩ : ∃ c, cls[k] = c := ⟨_, rfl⟩
          rw [hce] at hxc hc ht hmem
          have HT := Lib.hid ht
          have HBAD := Lib.hid (fun (hh : towX S M sp cls c = false) => show cls.all (towX S M sp cls) = false from by
            rw [Bool.eq_false_iff]
            intro ha
            have := List.all_eq_true.1 ha c hmem
            rw [hh] at this; cases this)
          have HTW0 := Lib.hid (show towX S M sp cls c = ((if c = sp 5 then decide (getX S M c 0 = sp 0) else decide (getX S M c 0 ∈ cls)) && decide (getX S M (clsX S M c) 0 = (if c = sp 5 then sp 6 else clsX S M (getX S M c 0))) && upF S M sp (cls.length + 1) c) from rfl)
          have PA := Lib.hid (part_any c 0 (K.out.later hbr) hc (by omega))
          have hup := HGL.out c
          have hm := clsX_lt K.out.c c
          obtain ⟨up, hupe⟩ : ∃ up, getX S M c 0 = up := ⟨_, rfl⟩
          obtain ⟨m, hme⟩ : ∃ m, clsX S M c = m := ⟨_, rfl⟩
          rw [hupe] at PA hup HTW0
          rw [hme] at hm HTW0
          have HME := Lib.hid hme
          clear hbr hcu hce ht hmem hupe hme
          go_wp2_with fail
          refine PA.out.mono ?_
          rintro e w1 ⟨rfl, hg1⟩
          have HB1 := Lib.hid (HBR.out.trans (hg1.mono HBR.out.size)); have HS1 := Lib.hid (HSET.out.later hg1)
          have K1 := K.out.later HB1.out
          have z6 : w1.cell? ⟨L, 8, none⟩ = some (.int .u64 (sp 6 : Int)) := K1.at_.word (i := 6) (by omega)
          have z5 : w1.cell? ⟨L, 7, none⟩ = some (.int .u64 (sp 5 : Int)) := K1.at_.word (i := 5) (by omega)
          have z0 : w1.cell? ⟨L, 2, none⟩ = some (.int .u64 (sp 0 : Int)) := K1.at_.word (i := 0) (by omega)
          have lk := HS1.out.look hup
          have MU := Lib.hid (meta_any up K1 hup)
          clear hg1 PA hxc K1
          by_cases h5 : c = sp 5
          · simp only [if_pos h5] at HTW0
            have q5 : ((c : Int) != (sp 5 : Int)) = false := by simp; omega
            by_cases hu0 : up = sp 0
            · have HTW := Lib.hid (show towX S M sp cls c = (decide (getX S M m 0 = sp 6) && upF S M sp (cls.length + 1) c) by rw [HTW0.out, decide_eq_true hu0, Bool.true_and])
              have q6 : ((up : Int) != (sp 0 : Int)) = false := by simp; omega
              clear HTW0 h5 hu0 lk MU
              have MT := Lib.hid (meta_any c (K.out.later HB1.out) hc)
              rw [HME.out] at MT
              go_wp2_with fail
              refine MT.out.mono ?_
              rintro e w7 ⟨rfl, hg7⟩
              have HB7 := Lib.hid (HB1.out.trans (hg7.mono HB1.out.size)); have HS7 := Lib.hid (HS1.out.later hg7)
              have PM := Lib.hid (part_any m 0 (K.out.later HB7.out) hm (by omega))
              clear hg7 MT
              by_cases hw : getX S M m 0 = sp 6
              · rw [hw] at PM
                have HTW2 := Lib.hid (show towX S M sp cls c = upF S M sp (cls.length + 1) c by rw [HTW.out, decide_eq_true hw, Bool.true_and])
                go_wp2_with fail
                refine PM.out.mono ?_
                rintro e w8 ⟨rfl, hg8⟩
                have HB8 := Lib.hid (HB7.out.trans (hg8.mono HB7.out.size)); have HS8 := Lib.hid (HS7.out.later hg8)
                clear hg8 PM hw
                go_wp2_with fail
                go_loopg [7, 10] (cls.length + 2) (fun gg s7 s10 wr => ∃ n cc : Nat, gg = cls.length + 2 - n ∧ n ≤ cls.length + 1 ∧ cc < 18446744073709551616 ∧ s7 = .int .u64 (cc : Int) ∧ s10 = .int .i64 (n : Int) ∧ Below w8.heap.size w8 wr ∧ towX S M sp cls c = upF S M sp (cls.length + 1 - n) cc)
                case atStart => exact ⟨0, c, by omega, by omega, hc, rfl, rfl, Below.refl _ _, HTW2.out⟩
                case round =>
                  obtain ⟨n, cc, hgn, hn, hcc, rfl, rfl, hbn, hup⟩ := hrel
                  have HGN := Lib.hid hgn; have HBN := Lib.hid (HB8.out.trans (hbn.mono HB8.out.size)); have HUP := Lib.hid hup; have HB8N := Lib.hid hbn; have HSN := Lib.hid (HS8.out.later hbn)
                  have KN := K.out.later HBN.out
                  have z0 : wr.cell? ⟨L, 2, none⟩ = some (.int .u64 (sp 0 : Int)) := KN.at_.word (i := 0) (by omega)
                  have PU := Lib.hid (part_any cc 0 KN hcc (by omega))
                  have hul := HGL.out cc
                  clear hgn hbn hup KN
                  by_cases hnil : cc = sp 0
                  · have HT1 := Lib.hid (show towX S M sp cls c = true by
                      rw [HUP.out]
                      cases cls.length + 1 - n with
                      | zero => rw [upF_zero]; exact decide_eq_true hnil
                      | succ f => rw [upF_succ, decide_eq_true hnil]; rfl)
                    have HF1 := Lib.hid (show (cls.take (k + 1)).all (towX S M sp cls) = true by rw [HT.out, List.all_append, HPF.out]; simp [HT1.out])
                    subst hnil
                    go_wp2_with fail
                    go_roundg (cls.length - (k + 1))
                    case measure => rw [HGK.out]; omega
                    case rel => exact ⟨k + 1, rfl, by omega, by go_num, HBN.out, HSN.out, HF1.out⟩
                  · have q1 : ((cc : Int) != (sp 0 : Int)) = true := by simp; omega
                    by_cases hnl : n = cls.length + 1
                    · have HF := Lib.hid (HBAD.out (by rw [HUP.out, hnl, Nat.sub_self, upF_zero]; exact decide_eq_false hnil))
                      subst hnl
                      clear hnil
                      go_wp2_with fail
                      refine PU.out.mono ?_
                      rintro e w9 ⟨rfl, hg9⟩
                      have HB9 := Lib.hid (HBN.out.trans (hg9.mono HBN.out.size))
                      have z1 := (K.out.later HB9.out).at_.cls
                      clear hg9 z0
                      go_wp2_with fail
                      go_ret
                      exact ⟨by rw [HF.out]; rfl, HB9.out⟩
                    · have HU2 := Lib.hid (show towX S M sp cls c = upF S M sp (cls.length + 1 - (n + 1)) (getX S M cc 0) by
                        rw [HUP.out, show cls.length + 1 - n = cls.length + 1 - (n + 1) + 1 by omega, upF_succ, decide_eq_false hnil, Bool.false_or])
                      clear hnil
                      go_wp2_with fail
                      refine PU.out.mono ?_
                      rintro e w9 ⟨rfl, hg9⟩
                      have HB9 := Lib.hid (HBN.out.trans (hg9.mono HBN.out.size)); have HB89 := Lib.hid (HB8N.out.trans (hg9.mono HB8N.out.size))
                      have z1 := (K.out.later HB9.out).at_.cls
                      clear hg9 z0
                      go_wp2_with fail
                      go_roundg (cls.length + 2 - (n + 1))
                      case measure => rw [HGN.out]; omega
                      case rel => exact ⟨n + 1, getX S M cc 0, rfl, by omega, hul, rfl, by go_num, HB89.out, HU2.out⟩
              · have HF := Lib.hid (HBAD.out (by rw [HTW.out, decide_eq_false hw]; rfl))
                have q1 : ((getX S M m 0 : Int) != (sp 6 : Int)) = true := by simp; omega
                clear hw
                go_wp2_with fail
                refine PM.out.mono ?_
                rintro e w8 ⟨rfl, hg8⟩
                have HB8 := Lib.hid (HB7.out.trans (hg8.mono HB7.out.size)); clear hg8
                go_wp2_with fail
                go_ret
                exact ⟨by rw [HF.out]; rfl, HB8.out⟩
            · have HF := Lib.hid (HBAD.out (by rw [HTW0.out, decide_eq_false hu0]; rfl))
              have q6 : ((up : Int) != (sp 0 : Int)) = true := by simp; omega
              clear h5 hu0
              go_wp2_with fail
              go_ret
              exact ⟨by rw [HF.out]; rfl, HB1.out⟩
          · simp only [if_neg h5] at HTW0
            have q5 : ((c : Int) != (sp 5 : Int)) = true := by simp; omega
            clear h5
            cases b4 : decide (up ∈ cls) with
            | false =>
              simp only [b4] at lk
              have HF := Lib.hid (HBAD.out (by rw [HTW0.out, b4]; rfl))
              clear b4
              go_wp2_with fail
              go_ret
              exact ⟨by rw [HF.out]; rfl, HB1.out⟩
            | true =>
              simp only [b4] at lk
              have HTW := Lib.hid (show towX S M sp cls c = (decide (getX S M m 0 = clsX S M up) && upF S M sp (cls.length + 1) c) by rw [HTW0.out, b4, Bool.true_and])
              clear HTW0 b4
              go_wp2_with fail
              refine MU.out.mono ?_
              rintro e w2 ⟨rfl, hg2⟩
              have HB2 := Lib.hid (HB1.out.trans (hg2.mono HB1.out.size)); have HS2 := Lib.hid (HS1.out.later hg2)
              clear hg2 MU lk z0 z5 z6 q5
              generalize clsX S M up = wt at *
              have MT := Lib.hid (meta_any c (K.out.later HB2.out) hc)
              rw [HME.out] at MT
              go_wp2_with fail
              refine MT.out.mono ?_
              rintro e w7 ⟨rfl, hg7⟩
              have HB7 := Lib.hid (HB2.out.trans (hg7.mono HB2.out.size)); have HS7 := Lib.hid (HS2.out.later hg7)
              have PM := Lib.hid (part_any m 0 (K.out.later HB7.out) hm (by omega))
              clear hg7 MT
              by_cases hw : getX S M m 0 = wt
              · rw [hw] at PM
                have HTW2 := Lib.hid (show towX S M sp cls c = upF S M sp (cls.length + 1) c by rw [HTW.out, decide_eq_true hw, Bool.true_and])
                go_wp2_with fail
                refine PM.out.mono ?_
                rintro e w8 ⟨rfl, hg8⟩
                have HB8 := Lib.hid (HB7.out.trans (hg8.mono HB7.out.size)); have HS8 := Lib.hid (HS7.out.later hg8)
                clear hg8 PM hw
                go_wp2_with fail
                go_loopg [7, 10] (cls.length + 2) (fun gg s7 s10 wr => ∃ n cc : Nat, gg = cls.length + 2 - n ∧ n ≤ cls.length + 1 ∧ cc < 18446744073709551616 ∧ s7 = .int .u64 (cc : Int) ∧ s10 = .int .i64 (n : Int) ∧ Below w8.heap.size w8 wr ∧ towX S M sp cls c = upF S M sp (cls.length + 1 - n) cc)
                case atStart => exact ⟨0, c, by omega, by omega, hc, rfl, rfl, Below.refl _ _, HTW2.out⟩
                case round =>
                  obtain ⟨n, cc, hgn, hn, hcc, rfl, rfl, hbn, hup⟩ := hrel
                  have HGN := Lib.hid hgn; have HBN := Lib.hid (HB8.out.trans (hbn.mono HB8.out.size)); have HUP := Lib.hid hup; have HB8N := Lib.hid hbn; have HSN := Lib.hid (HS8.out.later hbn)
                  have KN := K.out.later HBN.out
                  have z0 : wr.cell? ⟨L, 2, none⟩ = some (.int .u64 (sp 0 : Int)) := KN.at_.word (i := 0) (by omega)
                  have PU := Lib.hid (part_any cc 0 KN hcc (by omega))
                  have hul := HGL.out cc
                  clear hgn hbn hup KN
                  by_cases hnil : cc = sp 0
                  · have HT1 := Lib.hid (show towX S M sp cls c = true by
                      rw [HUP.out]
                      cases cls.length + 1 - n with
                      | zero => rw [upF_zero]; exact decide_eq_true hnil
                      | succ f => rw [upF_succ, decide_eq_true hnil]; rfl)
                    have HF1 := Lib.hid (show (cls.take (k + 1)).all (towX S M sp cls) = true by rw [HT.out, List.all_append, HPF.out]; simp [HT1.out])
                    subst hnil
                    go_wp2_with fail
                    go_roundg (cls.length - (k + 1))
                    case measure => rw [HGK.out]; omega
                    case rel => exact ⟨k + 1, rfl, by omega, by go_num, HBN.out, HSN.out, HF1.out⟩
                  · have q1 : ((cc : Int) != (sp 0 : Int)) = true := by simp; omega
                    by_cases hnl : n = cls.length + 1
                    · have HF := Lib.hid (HBAD.out (by rw [HUP.out, hnl, Nat.sub_self, upF_zero]; exact decide_eq_false hnil))
                      subst hnl
                      clear hnil
                      go_wp2_with fail
                      refine PU.out.mono ?_
                      rintro e w9 ⟨rfl, hg9⟩
                      have HB9 := Lib.hid (HBN.out.trans (hg9.mono HBN.out.size))
                      have z1 := (K.out.later HB9.out).at_.cls
                      clear hg9 z0
                      go_wp2_with fail
                      go_ret
                      exact ⟨by rw [HF.out]; rfl, HB9.out⟩
                    · have HU2 := Lib.hid (show towX S M sp cls c = upF S M sp (cls.length + 1 - (n + 1)) (getX S M cc 0) by
                        rw [HUP.out, show cls.length + 1 - n = cls.length + 1 - (n + 1) + 1 by omega, upF_succ, decide_eq_false hnil, Bool.false_or])
                      clear hnil
                      go_wp2_with fail
                      refine PU.out.mono ?_
                      rintro e w9 ⟨rfl, hg9⟩
                      have HB9 := Lib.hid (HBN.out.trans (hg9.mono HBN.out.size)); have HB89 := Lib.hid (HB8N.out.trans (hg9.mono HB8N.out.size))
                      have z1 := (K.out.later HB9.out).at_.cls
                      clear hg9 z0
                      go_wp2_with fail
                      go_roundg (cls.length + 2 - (n + 1))
                      case measure => rw [HGN.out]; omega
                      case rel => exact ⟨n + 1, getX S M cc 0, rfl, by omega, hul, rfl, by go_num, HB89.out, HU2.out⟩
              · have HF := Lib.hid (HBAD.out (by rw [HTW.out, decide_eq_false hw]; rfl))
                have q1 : ((getX S M m 0 : Int) != (wt : Int)) = true := by simp; omega
                clear hw
                go_wp2_with fail
                refine PM.out.mono ?_
                rintro e w8 ⟨rfl, hg8⟩
                have HB8 := Lib.hid (HB7.out.trans (hg8.mono HB7.out.size)); clear hg8
                go_wp2_with fail
                go_ret
                exact ⟨by rw [HF.out]; rfl, HB8.out⟩
        · obtain rfl : k = cls.length := by omega
          have hpf := HPF.out
          rw [List.take_length] at hpf
          have HF := Lib.hid hpf
          clear hbr hpf
          go_wp2_with fail
          go_ret
          exact ⟨by rw [HF.out]; rfl, HBR.out⟩
end
end Go.Proofs.YtibopjjicfiimaaGreatDoor
namespace Go.Proofs.YtibopjjicfiimaaGreatDoor
open Go.RowKit Go.Maps
set_option linter.unusedVariables false
/-- a class's methods and fields are lists as they should be -/
def ansX (S : Nat → Bool) (M : Nat → Nat) (sp : Nat → Nat) (k : Nat) : Bool :=
  isB S M sp (getX S M k 1) 1 14 && decide ((wrdX S M (getX S M k 1)).length % 2 = 0) && risF S M sp none (nthL 2 (wrdX S M (getX S M k 1))) && isB S M sp (getX S M k 4) 1 14 &&
  (prsL (wrdX S M (getX S M k 1))).all (fun p => ofB S M sp p.2 15) && (wrdX S M (getX S M k 4)).all (txB S M sp)
theorem ansX_def (S : Nat → Bool) (M : Nat → Nat) (sp : Nat → Nat) (k : Nat) : ansX S M sp k = (isB S M sp (getX S M k 1) 1 14 && decide ((wrdX S M (getX S M k 1)).length % 2 = 0) && risF S M sp none (nthL 2 (wrdX S M (getX S M k 1))) && isB S M sp (getX S M k 4) 1 14 &&
  (prsL (wrdX S M (getX S M k 1))).all (fun p => ofB S M sp p.2 15) && (wrdX S M (getX S M k 4)).all (txB S M sp)) := rfl
def ansB (S : Nat → Bool) (M : Nat → Nat) (sp : Nat → Nat) (cls : List Nat) : Bool := cls.all fun c => ansX S M sp c && ansX S M sp (clsX S M c)
section
variable {w : World} {B h N free L root : Nat} {S : Nat → Bool} {M : Nat → Nat} {sp : Nat → Nat} {cv : Value}
set_option maxRecDepth 100000 in
set_option maxHeartbeats 6400000 in
theorem answering_any (cls : List Nat) (k : Lk w B h N free S M L root sp cv) (hcv : WordsAt w cv cls) (hcl : ∀ c, c ∈ cls → c < 18446744073709551616) (hln : cls.length ≤ 6000) :
    Calls Tryz.prog 29 #[.pointer (some ⟨L, 0, none⟩)] w fun e w' => e = .returned (.bool (ansB S M sp cls)) ∧ Below w.heap.size w w' := by
  have K := Lib.hid k
  have HCV := Lib.hid hcv
  have HCL := Lib.hid hcl
  have HGL := Lib.hid (fun x i => getX_lt k x i)
  have HWL := Lib.hid (fun x y (hy : y ∈ wrdX S M x) => wrdX_lt k hy)
  have HLE := Lib.hid (fun x => wrdX_len_le k x)
  have HC0 := Lib.hid k.c
  obtain ⟨va, vc, rfl, -⟩ := hcv.get
  have y0 := k.at_.cls
  clear k hcv hcl
  go_enter Tryz.func29, Tryz.ntmps29
  go_wp2_with fail
  go_loopg [18] cls.length (fun gg s18 wr => ∃ k : Nat, gg = cls.length - k ∧ k ≤ cls.length ∧ s18 = .int .i64 (k : Int) ∧ Below w.heap.size w wr ∧ ansB S M sp (cls.take k) = true)
  case atStart => exact ⟨0, rfl, by omega, rfl, Below.refl _ _, rfl⟩
  case round =>
    obtain ⟨k, hgk, hk, rfl, hbr, hpf⟩ := hrel
    have HGK := Lib.hid hgk; have HBR := Lib.hid hbr; have HPF := Lib.hid hpf
    clear hgk hpf y0
    by_cases hlt : k < cls.length
    · obtain ⟨va', vc', hue, -, -, hcu⟩ := (HCV.out.later hbr).get
      simp only [Value.slice.injEq, true_and] at hue
      obtain ⟨rfl, rfl⟩ := hue
      obtain ⟨xb, xo, rfl, hxl, hxc⟩ := hcu k hlt
      have hc := HCL.out _ (List.getElem_mem hlt)
      have hmem := List.getElem_mem hlt
      have ht : cls.take (k + 1) = cls.take k ++ [cls[k]] := List.take_succ_eq_append_getElem hlt
      obtain ⟨c, hce⟩ : ∃ c, cls[k] = c := ⟨_, rfl⟩
      rw [hce] at hxc hc ht hmem
      have hm := clsX_lt HC0.out c
      have HAX := Lib.hid (show ansB S M sp (cls.take (k + 1)) = (ansB S M sp (cls.take k) && (ansX S M sp c && ansX S M sp (clsX S M c))) by unfold ansB; rw [ht, List.all_append]; simp)
      have HBAD0 := Lib.hid (fun (hh : (ansX S M sp c && ansX S M sp (clsX S M c)) = false) => show ansB S M sp cls = false from by
        rw [Bool.eq_false_iff]
        intro ha
        have := List.all_eq_true.1 ha c hmem
        rw [hh] at this; cases this)
      have MT := Lib.hid (meta_any c (K.out.later hbr) hc)
      obtain ⟨m, hme⟩ : ∃ m, clsX S M c = m := ⟨_, rfl⟩
      rw [hme] at MT hm HAX HBAD0
      clear hbr hcu hce ht hmem hme
      go_wp2_with fail
      refine MT.out.mono ?_
      rintro e w1 ⟨rfl, hg1⟩
      have HB1 := Lib.hid (HBR.out.trans (hg1.mono HBR.out.size))
      obtain ⟨w2, hw2⟩ : ∃ w2, w2 = w1.alloc (.cells #[.int .u64 (c : Int), .int .u64 (m : Int)] 39) := ⟨_, rfl⟩
      have hx2 : w2.heap[w1.heap.size]? = some (.cells #[.int .u64 (c : Int), .int .u64 (m : Int)] 39 (0, 0)) := by rw [hw2]; exact heap_alloc_new w1 _
      have hg2 : Below w1.heap.size w1 w2 := by rw [hw2]; exact (Below.refl _ w1).alloc (Nat.le_refl _) _
      have HB2 := Lib.hid (HB1.out.trans (hg2.mono HB1.out.size))
      have hl2 := (Array.getElem?_eq_some_iff.1 hx2).1
      have HCL2 := Lib.hid (show ∀ j, j < 2 → w2.cell? ⟨w1.heap.size, j, none⟩ = some (.int .u64 (([c, m].getD j 0 : Nat) : Int)) ∧ [c, m].getD j 0 < 18446744073709551616 from fun j hj => by
        match j, hj with
        | 0, _ => exact ⟨cellO hx2 0, hc⟩
        | 1, _ => exact ⟨cellO hx2 1, hm⟩
        | j + 2, hj => omega)
      clear hg1 MT hxc hx2 hg2
      go_wp2_with fail
      rw [← hw2]
      clear hw2
      go_loopg [28] 2 (fun gg s28 wr => ∃ j : Nat, gg = 2 - j ∧ j ≤ 2 ∧ s28 = .int .i64 (j : Int) ∧ Below w2.heap.size w2 wr ∧ ∀ i, i < j → ansX S M sp ([c, m].getD i 0) = true)
      case atStart => exact ⟨0, rfl, by omega, rfl, Below.refl _ _, fun i hi => by omega⟩
      case round =>
        obtain ⟨j, hgj, hj, rfl, hb2, hdj⟩ := hrel
        have HGJ := Lib.hid hgj; have HDJ := Lib.hid hdj; have HBJ := Lib.hid hb2
        have HBR2 := Lib.hid (HB2.out.trans (hb2.mono HB2.out.size))
        clear hgj hdj
        by_cases hj2 : j < 2
        · obtain ⟨hcell, hkk⟩ := HCL2.out j hj2
          have l0 := (hb2.cell (p := ⟨w1.heap.size, j, none⟩) hl2).trans hcell
          have HBAD := Lib.hid (fun (hh : ansX S M sp ([c, m].getD j 0) = false) => show ansB S M sp cls = false from HBAD0.out (by
            match j, hj2, hh with
            | 0, _, hh => rw [show ansX S M sp c = false from hh]; rfl
            | 1, _, hh => rw [show ansX S M sp m = false from hh, Bool.and_false]
            | j + 2, hj, _ => omega))
          have HNX := Lib.hid (fun (hh : ansX S M sp ([c, m].getD j 0) = true) => show ∀ i, i < j + 1 → ansX S M sp ([c, m].getD i 0) = true from fun i hi => by
            by_cases e : i = j
            · subst e; exact hh
            · exact HDJ.out i (by omega))
          obtain ⟨kk, hkke⟩ : ∃ kk, [c, m].getD j 0 = kk := ⟨_, rfl⟩
          rw [hkke] at l0 hkk HBAD HNX
          have HAD := Lib.hid (ansX_def S M sp kk)
          have hml := HGL.out kk 1; have hvl := HGL.out kk 4
          have KJ := K.out.later HBR2.out
          have PA := Lib.hid (part_any kk 1 KJ hkk (by omega))
          obtain ⟨ml, hmle⟩ : ∃ ml, getX S M kk 1 = ml := ⟨_, rfl⟩
          obtain ⟨vl, hvle⟩ : ∃ vl, getX S M kk 4 = vl := ⟨_, rfl⟩
          have HML := Lib.hid hmle; have HVL := Lib.hid hvle
          rw [hmle] at PA HAD hml
          rw [hvle] at HAD hvl
          clear hb2 hcell hkke hmle hvle KJ
          go_wp2_with fail
          refine PA.out.mono ?_
          rintro e w3 ⟨rfl, hg3⟩
          have HB3 := Lib.hid (HBR2.out.trans (hg3.mono HBR2.out.size)); have HJ3 := Lib.hid (HBJ.out.trans (hg3.mono HBJ.out.size))
          have WD := Lib.hid (wrds_any ml (K.out.later HB3.out) hml)
          have hwl := HLE.out ml
          have HWM := Lib.hid (HWL.out ml)
          clear hg3 PA l0
          go_wp2_with fail
          refine WD.out.mono ?_
          rintro e w4 ⟨v4, rfl, hwa, -, hg4⟩
          have HB4 := Lib.hid (HB3.out.trans (hg4.mono HB3.out.size)); have HJ4 := Lib.hid (HJ3.out.trans (hg4.mono HJ3.out.size)); have HWA4 := Lib.hid hwa
          have PA := Lib.hid (part_any kk 1 (K.out.later HB4.out) hkk (by omega))
          rw [HML.out] at PA
          obtain ⟨wva, wvc, rfl, -⟩ := hwa.get
          generalize wrdX S M ml = ws at *
          obtain ⟨n, hn⟩ : ∃ n, ws.length = n := ⟨_, rfl⟩
          have HN := Lib.hid hn
          rw [hn] at HWA4 HAD hwl ⊢
          clear hg4 WD hwa hn
          go_wp2_with fail
          refine PA.out.mono ?_
          rintro e w5 ⟨rfl, hg5⟩
          have HB5 := Lib.hid (HB4.out.trans (hg5.mono HB4.out.size)); have HJ5 := Lib.hid (HJ4.out.trans (hg5.mono HJ4.out.size)); have HWA5 := Lib.hid (HWA4.out.later hg5)
          have SL := Lib.hid (slots_any ml (K.out.later HB5.out) hml)
          clear hg5 PA HWA4
          cases b1 : isB S M sp ml 1 14 with
          | false =>
            rw [b1] at SL
            have HF := Lib.hid (HBAD.out (by rw [HAD.out, b1]; rfl))
            clear b1
            go_wp2_with fail
            refine SL.out.mono ?_
            rintro e w6 ⟨rfl, hg6⟩
            have HB6 := Lib.hid (HB5.out.trans (hg6.mono HB5.out.size)); clear hg6
            go_wp2_with fail
            go_ret
            exact ⟨by rw [HF.out]; rfl, HB6.out⟩
          | true =>
            rw [b1] at SL
            go_wp2_with fail
            refine SL.out.mono ?_
            rintro e w6 ⟨rfl, hg6⟩
            have HB6 := Lib.hid (HB5.out.trans (hg6.mono HB5.out.size)); have HJ6 := Lib.hid (HJ5.out.trans (hg6.mono HJ5.out.size)); have hw6 := HWA5.out.later hg6
            clear hg6 SL HWA5
            by_cases h2 : n % 2 = 0
            · obtain ⟨q, rfl⟩ : ∃ q, n = 2 * q := ⟨n / 2, by omega⟩
              have hz : (2 * (q : Int)).tmod 2 = 0 := by rw [Int.tmod_eq_emod_of_nonneg (by omega)]; omega
              have HAD2 := Lib.hid (show ansX S M sp kk = (risF S M sp none (nthL 2 ws) && isB S M sp vl 1 14 && (prsL ws).all (fun p => ofB S M sp p.2 15) && (wrdX S M vl).all (txB S M sp)) by rw [HAD.out, b1, decide_eq_true h2]; rfl)
              have HWA6 := Lib.hid hw6
              rw [← HN.out] at hw6
              have RI := Lib.hid (rising_any _ ws 2 (K.out.later HB6.out) hw6 HWM.out (by omega) (by omega) (by rw [HN.out]; omega))
              rw [HN.out] at RI
              clear b1 h2 hw6
              cases b2 : risF S M sp none (nthL 2 ws) with
              | false =>
                rw [b2] at RI
                have HF := Lib.hid (HBAD.out (by rw [HAD2.out, b2]; rfl))
                clear b2
                go_wp2_with fail
                refine RI.out.mono ?_
                rintro e w7 ⟨rfl, hg7⟩
                have HB7 := Lib.hid (HB6.out.trans (hg7.mono HB6.out.size)); clear hg7
                go_wp2_with fail
                go_ret
                exact ⟨by rw [HF.out]; rfl, HB7.out⟩
              | true =>
                rw [b2] at RI
                go_wp2_with fail
                refine RI.out.mono ?_
                rintro e w7 ⟨rfl, hg7⟩
                have HB7 := Lib.hid (HB6.out.trans (hg7.mono HB6.out.size)); have HJ7 := Lib.hid (HJ6.out.trans (hg7.mono HJ6.out.size)); have HWA7 := Lib.hid (HWA6.out.later hg7)
                have PV := Lib.hid (part_any kk 4 (K.out.later HB7.out) hkk (by omega))
                rw [HVL.out] at PV
                clear hg7 RI HWA6
                go_wp2_with fail
                refine PV.out.mono ?_
                rintro e w8 ⟨rfl, hg8⟩
                have HB8 := Lib.hid (HB7.out.trans (hg8.mono HB7.out.size)); have HJ8 := Lib.hid (HJ7.out.trans (hg8.mono HJ7.out.size)); have HWA8 := Lib.hid (HWA7.out.later hg8)
                have SV := Lib.hid (slots_any vl (K.out.later HB8.out) hvl)
                clear hg8 PV HWA7
                cases b3 : isB S M sp vl 1 14 with
                | false =>
                  rw [b3] at SV
                  have HF := Lib.hid (HBAD.out (by rw [HAD2.out, b2, b3]; rfl))
                  clear b2 b3
                  go_wp2_with fail
                  refine SV.out.mono ?_
                  rintro e w9 ⟨rfl, hg9⟩
                  have HB9 := Lib.hid (HB8.out.trans (hg9.mono HB8.out.size)); clear hg9
                  go_wp2_with fail
                  go_ret
                  exact ⟨by rw [HF.out]; rfl, HB9.out⟩
                | true =>
                  rw [b3] at SV
                  have HAD3 := Lib.hid (show ansX S M sp kk = ((prsL ws).all (fun p => ofB S M sp p.2 15) && (wrdX S M vl).all (txB S M sp)) by rw [HAD2.out, b2, b3]; rfl)
                  clear b2 b3
                  go_wp2_with fail
                  refine SV.out.mono ?_
                  rintro e w9 ⟨rfl, hg9⟩
                  have HB9 := Lib.hid (HB8.out.trans (hg9.mono HB8.out.size)); have HJ9 := Lib.hid (HJ8.out.trans (hg9.mono HJ8.out.size)); have HWA9 := Lib.hid (HWA8.out.later hg9)
                  clear hg9 SV HWA8
                  go_wp2_with fail
                  go_loopg [8] (q + 1) (fun gg s8 wr => ∃ i : Nat, gg = q + 1 - i ∧ i ≤ q ∧ s8 = .int .i64 ((2 * i + 1 : Nat) : Int) ∧ Below w9.heap.size w9 wr ∧ ∀ a, a < i → ofB S M sp (ws.getD (2 * a + 1) 0) 15 = true)
                  case atStart => exact ⟨0, rfl, by omega, rfl, Below.refl _ _, fun i hi => by omega⟩
                  case round =>
                    obtain ⟨i, hgi, hi, rfl, hb9, hdi⟩ := hrel
                    have HGI := Lib.hid hgi; have HDI := Lib.hid hdi; have HBI := Lib.hid hb9
                    have HB10 := Lib.hid (HB9.out.trans (hb9.mono HB9.out.size)); have HJ10 := Lib.hid (HJ9.out.trans (hb9.mono HJ9.out.size))
                    have HWA10 := Lib.hid (HWA9.out.later hb9)
                    clear hgi hdi
                    by_cases hiq : i < q
                    · have hw10 := HWA10.out
                      rw [← HN.out] at hw10
                      obtain ⟨a', c', he', -, -, hat⟩ := hw10.at
                      rw [HN.out] at he'
                      simp only [Value.slice.injEq, true_and] at he'
                      obtain ⟨rfl, rfl⟩ := he'
                      obtain ⟨gb, go, rfl, hgl, hs0⟩ := hat (2 * i + 1) (by rw [HN.out]; omega)
                      have hys := HWM.out _ (getD_mem (l := ws) (i := 2 * i + 1) (by rw [HN.out]; omega))
                      have HB11 := Lib.hid (fun (hh : ofB S M sp (ws.getD (2 * i + 1) 0) 15 = false) => show ansB S M sp cls = false from HBAD.out (by
                        rw [HAD3.out, show (prsL ws).all (fun p => ofB S M sp p.2 15) = false from ?_]
                        · rfl
                        · rw [Bool.eq_false_iff]
                          intro ha
                          have hg := prsL_get ws i (by rw [HN.out]; omega)
                          have := List.all_eq_true.1 ha _ (List.mem_of_getElem? hg)
                          rw [show ofB S M sp (ws.getD (2 * i + 1) 0) 15 = true from this] at hh; cases hh))
                      have HNI := Lib.hid (fun (hh : ofB S M sp (ws.getD (2 * i + 1) 0) 15 = true) => show ∀ a, a < i + 1 → ofB S M sp (ws.getD (2 * a + 1) 0) 15 = true from fun a ha => by
                        by_cases e : a = i
                        · subst e; exact hh
                        · exact HDI.out a (by omega))
                      obtain ⟨y, hye⟩ : ∃ y, ws.getD (2 * i + 1) 0 = y := ⟨_, rfl⟩
                      rw [hye] at hs0 hys HB11 HNI
                      have OF := Lib.hid (of_any y 15 (K.out.later HB10.out) hys (by omega))
                      clear hat hw10 hye hb9
                      cases b4 : ofB S M sp y 15 with
                      | false =>
                        rw [b4] at OF
                        have HF := Lib.hid (HB11.out b4)
                        clear b4
                        go_wp2_with fail
                        refine OF.out.mono ?_
                        rintro e w11 ⟨rfl, hg11⟩
                        have HBX := Lib.hid (HB10.out.trans (hg11.mono HB10.out.size)); clear hg11
                        go_wp2_with fail
                        go_ret
                        exact ⟨by rw [HF.out]; rfl, HBX.out⟩
                      | true =>
                        rw [b4] at OF
                        have HN2 := Lib.hid (HNI.out b4)
                        clear b4
                        go_wp2_with fail
                        refine OF.out.mono ?_
                        rintro e w11 ⟨rfl, hg11⟩
                        have HBX := Lib.hid (HBI.out.trans (hg11.mono HBI.out.size)); clear hg11
                        go_wp2_with fail
                        go_roundg (q + 1 - (i + 1))
                        case measure => rw [HGI.out]; omega
                        case rel => exact ⟨i + 1, rfl, by omega, by go_num, HBX.out, HN2.out⟩
                    · obtain rfl : i = q := by omega
                      have HA15 := Lib.hid (show (prsL ws).all (fun p => ofB S M sp p.2 15) = true from by
                        refine List.all_eq_true.2 fun p hp => ?_
                        obtain ⟨a, ha, rfl⟩ := List.mem_iff_getElem.1 hp
                        have hal : a < i := by rw [prsL_len, HN.out] at ha; omega
                        have hg := prsL_get ws a (by rw [HN.out]; omega)
                        rw [List.getElem?_eq_getElem ha] at hg
                        rw [Option.some.inj hg]
                        exact HDI.out a hal)
                      have PV := Lib.hid (part_any kk 4 (K.out.later HB10.out) hkk (by omega))
                      rw [HVL.out] at PV
                      clear hb9
                      go_wp2_with fail
                      refine PV.out.mono ?_
                      rintro e w12 ⟨rfl, hg12⟩
                      have HB12 := Lib.hid (HB10.out.trans (hg12.mono HB10.out.size)); have HJ12 := Lib.hid (HJ10.out.trans (hg12.mono HJ10.out.size))
                      have WV := Lib.hid (wrds_any vl (K.out.later HB12.out) hvl)
                      have hvw := HLE.out vl
                      have HVW := Lib.hid (HWL.out vl)
                      have HAD4 := Lib.hid (show ansX S M sp kk = (wrdX S M vl).all (txB S M sp) by rw [HAD3.out, HA15.out, Bool.true_and])
                      clear hg12 PV
                      go_wp2_with fail
                      refine WV.out.mono ?_
                      rintro e w13 ⟨v13, rfl, hwv, -, hg13⟩
                      have HB13 := Lib.hid (HB12.out.trans (hg13.mono HB12.out.size)); have HJ13 := Lib.hid (HJ12.out.trans (hg13.mono HJ12.out.size)); have HWV := Lib.hid hwv
                      obtain ⟨uva, uvc, rfl, -⟩ := hwv.get
                      generalize wrdX S M vl = vs at *
                      clear hg13 WV hwv
                      go_wp2_with fail
                      go_loopg [82] vs.length (fun gg s82 wr => ∃ a : Nat, gg = vs.length - a ∧ a ≤ vs.length ∧ s82 = .int .i64 (a : Int) ∧ Below w13.heap.size w13 wr ∧ (vs.take a).all (txB S M sp) = true)
                      case atStart => exact ⟨0, rfl, by omega, rfl, Below.refl _ _, rfl⟩
                      case round =>
                        obtain ⟨a, hga, ha, rfl, hb13, hda⟩ := hrel
                        have HGA := Lib.hid hga; have HDA := Lib.hid hda; have HBA := Lib.hid hb13
                        have HB14 := Lib.hid (HB13.out.trans (hb13.mono HB13.out.size)); have HJ14 := Lib.hid (HJ13.out.trans (hb13.mono HJ13.out.size))
                        clear hga hda
                        by_cases hav : a < vs.length
                        · obtain ⟨a', c', hue, -, -, hcu⟩ := (HWV.out.later hb13).get
                          simp only [Value.slice.injEq, true_and] at hue
                          obtain ⟨rfl, rfl⟩ := hue
                          obtain ⟨gb, go, rfl, hgl, hs0⟩ := hcu a hav
                          have hys := HVW.out _ (List.getElem_mem hav)
                          have hmem := List.getElem_mem hav
                          have hta : vs.take (a + 1) = vs.take a ++ [vs[a]] := List.take_succ_eq_append_getElem hav
                          obtain ⟨y, hye⟩ : ∃ y, vs[a] = y := ⟨_, rfl⟩
                          rw [hye] at hs0 hys hmem hta
                          have HTA := Lib.hid hta
                          have HBY := Lib.hid (fun (hh : txB S M sp y = false) => show ansB S M sp cls = false from HBAD.out (by
                            rw [HAD4.out, Bool.eq_false_iff]
                            intro hx
                            have := List.all_eq_true.1 hx y hmem
                            rw [hh] at this; cases this))
                          have TX := Lib.hid (text_any y (K.out.later HB14.out) hys)
                          clear hcu hye hb13 hmem hta
                          cases b5 : txB S M sp y with
                          | false =>
                            rw [b5] at TX
                            have HF := Lib.hid (HBY.out b5)
                            clear b5
                            go_wp2_with fail
                            refine TX.out.mono ?_
                            rintro e w15 ⟨v15, rfl, -, hg15⟩
                            have HB15 := Lib.hid (HB14.out.trans (hg15.mono HB14.out.size)); clear hg15
                            go_wp2_with fail
                            go_ret
                            exact ⟨by rw [HF.out]; rfl, HB15.out⟩
                          | true =>
                            rw [b5] at TX
                            have HD2 := Lib.hid (show (vs.take (a + 1)).all (txB S M sp) = true by rw [HTA.out, List.all_append, HDA.out]; simp [b5])
                            clear b5
                            go_wp2_with fail
                            refine TX.out.mono ?_
                            rintro e w15 ⟨v15, rfl, -, hg15⟩
                            have HB15 := Lib.hid (HBA.out.trans (hg15.mono HBA.out.size)); clear hg15
                            go_wp2_with fail
                            go_roundg (vs.length - (a + 1))
                            case measure => rw [HGA.out]; omega
                            case rel => exact ⟨a + 1, rfl, by omega, by go_num, HB15.out, HD2.out⟩
                        · obtain rfl : a = vs.length := by omega
                          have hda := HDA.out
                          rw [List.take_length] at hda
                          have HX := Lib.hid (HNX.out (HAD4.out.trans hda))
                          clear hb13 hda
                          go_wp2_with fail
                          go_roundg (2 - (j + 1))
                          case measure => rw [HGJ.out]; omega
                          case rel => exact ⟨j + 1, rfl, by omega, by go_num, HJ14.out, HX.out⟩
            · have HF := Lib.hid (HBAD.out (by rw [HAD.out, decide_eq_false h2, Bool.and_false]; rfl))
              have hz : (n : Int).tmod 2 = 1 := by rw [Int.tmod_eq_emod_of_nonneg (by omega)]; omega
              clear h2 b1 hw6
              go_wp2_with fail
              go_ret
              exact ⟨by rw [HF.out]; rfl, HB6.out⟩
        · obtain rfl : j = 2 := by omega
          have h0 := HDJ.out 0 (by omega); have h1 := HDJ.out 1 (by omega)
          have HP1 := Lib.hid (show ansB S M sp (cls.take (k + 1)) = true by
            rw [HAX.out, HPF.out, show ansX S M sp c = true from h0, show ansX S M sp m = true from h1]; rfl)
          clear hb2 h0 h1
          go_wp2_with fail
          go_roundg (cls.length - (k + 1))
          case measure => rw [HGK.out]; omega
          case rel => exact ⟨k + 1, rfl, by omega, by go_num, HBR2.out, HP1.out⟩
    · obtain rfl : k = cls.length := by omega
      have hpf := HPF.out
      rw [List.take_length] at hpf
      have HF := Lib.hid hpf
      clear hbr hpf
      go_wp2_with fail
      go_ret
      exact ⟨by rw [HF.out]; rfl, HBR.out⟩
end
end Go.Proofs.YtibopjjicfiimaaGreatDoor
namespace Go.Proofs.YtibopjjicfiimaaGreatDoor
open Go.RowKit Go.Maps
set_option linter.unusedVariables false
/-- the nine rules -/
noncomputable def rulB (S : Nat → Bool) (M : Nat → Nat) (N root : Nat) : Nat → Bool
  | 0 => closedB S M && allO N S (nzB S M)
  | 1 => allO N S (fun x => !mrkX S M x)
  | 2 => rootB S M root
  | 3 => namB S M (spX S M root)
  | 4 => pairF S M (spX S M root) [] (clsL S M (spX S M root))
  | 5 => (clsL S M (spX S M root)).all (towX S M (spX S M root) (clsL S M (spX S M root)))
  | 6 => intB S M (spX S M root) N
  | 7 => fitB S M N (clsL S M (spX S M root))
  | _ => ansB S M (spX S M root) (clsL S M (spX S M root))
/-- the first that does not hold, from 1 on; 0: all hold -/
noncomputable def soundN (S : Nat → Bool) (M : Nat → Nat) (N root : Nat) : Nat := (((List.range 9).find? fun j => !rulB S M N root j).map (· + 1)).getD 0
theorem soundN_bad {S : Nat → Bool} {M : Nat → Nat} {N root j : Nat} (hj : j < 9) (h : ∀ i, i < j → rulB S M N root i = true) (hb : rulB S M N root j = false) : soundN S M N root = j + 1 := by
  unfold soundN
  rw [show (List.range 9).find? (fun j => !rulB S M N root j) = some j from ?_]
  · rfl
  · rw [List.find?_range_eq_some]
    exact ⟨by rw [hb]; rfl, List.mem_range.2 hj, fun i hi => by rw [h i hi]; rfl⟩
theorem soundN_zero {S : Nat → Bool} {M : Nat → Nat} {N root : Nat} : soundN S M N root = 0 ↔ ∀ i, i < 9 → rulB S M N root i = true := by
  constructor
  · intro h i hi
    unfold soundN at h
    cases hf : (List.range 9).find? (fun j => !rulB S M N root j) with
    | some j => rw [hf] at h; simp at h
    | none =>
      have := List.find?_eq_none.1 hf i (List.mem_range.2 hi)
      simpa using this
  · intro h
    unfold soundN
    rw [List.find?_eq_none.2 (fun i hi => by rw [h i (List.mem_range.1 hi)]; simp)]
    rfl
theorem soundN_le (S : Nat → Bool) (M : Nat → Nat) (N root : Nat) : soundN S M N root ≤ 9 := by
  by_cases h : ∀ i, i < 9 → rulB S M N root i = true
  · rw [soundN_zero.2 h]; omega
  · unfold soundN
    cases hf : (List.range 9).find? (fun j => !rulB S M N root j) with
    | none => simp
    | some j =>
      have := List.mem_range.1 (List.mem_of_find?_eq_some hf)
      simp; omega
/-- the look, when so many rules are checked -/
def SdSt (B h N free : Nat) (S : Nat → Bool) (M : Nat → Nat) (L root j : Nat) (w : World) : Prop :=
  ∃ sp cv, Lk w B h N free S M L root sp cv ∧ (j ≤ 3 → cv = .slice none 0 0) ∧ (3 ≤ j → sp = spX S M root) ∧ (4 ≤ j → WordsAt w cv (clsL S M (spX S M root)))
def fid (j : Nat) : Nat := [21, 22, 23, 24, 25, 26, 27, 28, 29].getD j 0
section
variable {w : World} {B h N free L root : Nat} {S : Nat → Bool} {M : Nat → Nat}
theorem cls_lt {sp : Nat → Nat} {cv : Value} (k : Lk w B h N free S M L root sp cv) (s : Nat → Nat) {c : Nat} (hc : c ∈ clsL S M s) : c < 18446744073709551616 := by
  unfold clsL at hc
  obtain ⟨p, hp, rfl⟩ := List.mem_map.1 hc
  obtain ⟨i, hi, rfl⟩ := List.mem_iff_getElem.1 hp
  rw [prsL_len] at hi
  have hg := prsL_get (wrdX S M (s 3)) i (by omega)
  rw [List.getElem?_eq_getElem (by rw [prsL_len]; exact hi)] at hg
  rw [Option.some.inj hg]
  exact wrdX_lt k (getD_mem (by omega))
theorem cls_len {sp : Nat → Nat} {cv : Value} (k : Lk w B h N free S M L root sp cv) (s : Nat → Nat) : (clsL S M s).length ≤ 6000 := by
  unfold clsL
  rw [List.length_map, prsL_len]
  have := wrdX_len_le k (s 3)
  omega
theorem rul_any (j : Nat) (hj : j < 9) (st : SdSt B h N free S M L root j w) :
    Calls Tryz.prog (fid j) #[.pointer (some ⟨L, 0, none⟩)] w fun e w' => e = .returned (.bool (rulB S M N root j)) ∧ w.grownBy w' (some L) ∧ (rulB S M N root j = true → SdSt B h N free S M L root (j + 1) w') := by
  obtain ⟨sp, cv, k, s1, s2, s3⟩ := st
  match j, hj with
  | 0, _ =>
    refine (closed2_any k).mono fun e w' hh => ⟨hh.1, grown_below2 hh.2, fun _ => ⟨sp, cv, k.later hh.2, fun _ => s1 (by omega), fun h => by omega, fun h => by omega⟩⟩
  | 1, _ =>
    refine (unmarked_any k).mono fun e w' hh => ⟨hh.1, grown_below2 hh.2, fun _ => ⟨sp, cv, k.later hh.2, fun _ => s1 (by omega), fun h => by omega, fun h => by omega⟩⟩
  | 2, _ =>
    obtain rfl := s1 (by omega)
    refine (rooted_any k).mono fun e w' hh => ⟨hh.1, hh.2.1, fun hr => ⟨spX S M root, _, hh.2.2 hr, fun _ => rfl, fun _ => rfl, fun h => by omega⟩⟩
  | 3, _ =>
    obtain rfl := s1 (by omega)
    obtain rfl := s2 (by omega)
    refine (named_any k).mono fun e w' hh => ⟨hh.1, hh.2.1, fun hr => ?_⟩
    obtain ⟨cv', h1, h2⟩ := hh.2.2 hr
    exact ⟨spX S M root, cv', h1, fun h => by omega, fun _ => rfl, fun _ => h2⟩
  | 4, _ =>
    obtain rfl := s2 (by omega)
    refine (paired_any _ k (s3 (by omega)) (fun c hc => cls_lt k _ hc) (cls_len k _)).mono fun e w' hh => ⟨hh.1, grown_below2 hh.2, fun _ => ⟨_, cv, k.later hh.2, fun h => by omega, fun _ => rfl, fun _ => (s3 (by omega)).later hh.2⟩⟩
  | 5, _ =>
    obtain rfl := s2 (by omega)
    refine (towered_any _ k (s3 (by omega)) (fun c hc => cls_lt k _ hc) (cls_len k _)).mono fun e w' hh => ⟨hh.1, grown_below2 hh.2, fun _ => ⟨_, cv, k.later hh.2, fun h => by omega, fun _ => rfl, fun _ => (s3 (by omega)).later hh.2⟩⟩
  | 6, _ =>
    obtain rfl := s2 (by omega)
    refine (interned_any k).mono fun e w' hh => ⟨hh.1, grown_below2 hh.2, fun _ => ⟨_, cv, k.later hh.2, fun h => by omega, fun _ => rfl, fun _ => (s3 (by omega)).later hh.2⟩⟩
  | 7, _ =>
    obtain rfl := s2 (by omega)
    refine (fitting_any _ k (s3 (by omega)) (fun c hc => cls_lt k _ hc) (cls_len k _)).mono fun e w' hh => ⟨hh.1, grown_below2 hh.2, fun _ => ⟨_, cv, k.later hh.2, fun h => by omega, fun _ => rfl, fun _ => (s3 (by omega)).later hh.2⟩⟩
  | 8, _ =>
    obtain rfl := s2 (by omega)
    refine (answering_any _ k (s3 (by omega)) (fun c hc => cls_lt k _ hc) (cls_len k _)).mono fun e w' hh => ⟨hh.1, grown_below2 hh.2, fun _ => ⟨_, cv, k.later hh.2, fun h => by omega, fun _ => rfl, fun _ => (s3 (by omega)).later hh.2⟩⟩
set_option maxRecDepth 100000 in
set_option maxHeartbeats 3200000 in
theorem check_sound (H : HeapAt w B h N free S M) (c : CollOK N S M) (hN : N ≤ 6000) (hr : root < 18446744073709551616) (hT : TabAt 0 Lib.deBruijn64tab w) (htab : 0 < w.heap.size) :
    Calls Tryz.prog 7 #[.pointer (some ⟨h, 0, none⟩), .int .u64 (root : Int)] w fun e w' => e = .returned (.int .i64 (soundN S M N root : Int)) ∧ Below w.heap.size w w' := by
  obtain ⟨w1, hw1⟩ : ∃ w1, w1 = w.alloc (.cells #[.pointer (some ⟨h, 0, none⟩), .int .u64 (root : Int), .int .u64 0, .int .u64 0, .int .u64 0, .int .u64 0, .int .u64 0, .int .u64 0, .int .u64 0, .int .u64 0, .int .u64 0, .int .u64 0, .int .u64 0, .int .u64 0, .int .u64 0, .int .u64 0, .int .u64 0, .int .u64 0, .int .u64 0, .int .u64 0, .int .u64 0, .int .u64 0, .int .u64 0, .int .u64 0, .int .u64 0, .int .u64 0, .slice none 0 0] 77) := ⟨_, rfl⟩
  have hx1 : w1.heap[w.heap.size]? = some (.cells #[.pointer (some ⟨h, 0, none⟩), .int .u64 (root : Int), .int .u64 0, .int .u64 0, .int .u64 0, .int .u64 0, .int .u64 0, .int .u64 0, .int .u64 0, .int .u64 0, .int .u64 0, .int .u64 0, .int .u64 0, .int .u64 0, .int .u64 0, .int .u64 0, .int .u64 0, .int .u64 0, .int .u64 0, .int .u64 0, .int .u64 0, .int .u64 0, .int .u64 0, .int .u64 0, .int .u64 0, .int .u64 0, .slice none 0 0] 77 (0, 0)) := by rw [hw1]; exact heap_alloc_new w _
  have hb1 : Below w.heap.size w w1 := by rw [hw1]; exact (Below.refl _ w).alloc (Nat.le_refl _) _
  have hs1 : w1.heap.size = w.heap.size + 1 := by rw [hw1]; simp
  have LK1 : Lk w1 B h N free S M w.heap.size root (fun _ => 0) (.slice none 0 0) :=
    ⟨H.later hb1, c, hN, ⟨_, hx1, rfl, rfl, rfl, fun i hi => by
      match i, hi with
      | 0, _ => rfl
      | 1, _ => rfl
      | 2, _ => rfl
      | 3, _ => rfl
      | 4, _ => rfl
      | 5, _ => rfl
      | 6, _ => rfl
      | 7, _ => rfl
      | 8, _ => rfl
      | 9, _ => rfl
      | 10, _ => rfl
      | 11, _ => rfl
      | 12, _ => rfl
      | 13, _ => rfl
      | 14, _ => rfl
      | 15, _ => rfl
      | 16, _ => rfl
      | 17, _ => rfl
      | 18, _ => rfl
      | 19, _ => rfl
      | 20, _ => rfl
      | 21, _ => rfl
      | 22, _ => rfl
      | 23, _ => rfl
      | i + 24, hi => omega, rfl⟩, fun _ _ => by omega, hr, tab_later hT hb1, H.lt.far fun q hq => hb1.block q hq, htab⟩
  obtain ⟨w2, hw2⟩ : ∃ w2, w2 = w1.alloc (.cells #[.func (.func 21) #[] #[], .func (.func 22) #[] #[], .func (.func 23) #[] #[], .func (.func 24) #[] #[], .func (.func 25) #[] #[], .func (.func 26) #[] #[], .func (.func 27) #[] #[], .func (.func 28) #[] #[], .func (.func 29) #[] #[]] 81) := ⟨_, rfl⟩
  have hx2 : w2.heap[w1.heap.size]? = some (.cells #[.func (.func 21) #[] #[], .func (.func 22) #[] #[], .func (.func 23) #[] #[], .func (.func 24) #[] #[], .func (.func 25) #[] #[], .func (.func 26) #[] #[], .func (.func 27) #[] #[], .func (.func 28) #[] #[], .func (.func 29) #[] #[]] 81 (0, 0)) := by rw [hw2]; exact heap_alloc_new w1 _
  have hb2 : Below w1.heap.size w1 w2 := by rw [hw2]; exact (Below.refl _ w1).alloc (Nat.le_refl _) _
  have HST2 := Lib.hid (show SdSt B h N free S M w.heap.size root 0 w2 from ⟨_, _, LK1.later hb2, fun _ => rfl, fun h => by omega, fun h => by omega⟩)
  have HB2 := Lib.hid (hb1.trans (hb2.mono hb1.size))
  have hl2 := (Array.getElem?_eq_some_iff.1 hx2).1
  have HFN := Lib.hid (show ∀ j, j < 9 → w2.cell? ⟨w1.heap.size, j, none⟩ = some (.func (.func (fid j)) #[] #[]) from fun j hj => by
    match j, hj with
    | 0, _ => exact cellO hx2 0
    | 1, _ => exact cellO hx2 1
    | 2, _ => exact cellO hx2 2
    | 3, _ => exact cellO hx2 3
    | 4, _ => exact cellO hx2 4
    | 5, _ => exact cellO hx2 5
    | 6, _ => exact cellO hx2 6
    | 7, _ => exact cellO hx2 7
    | 8, _ => exact cellO hx2 8
    | j + 9, hj => omega)
  clear LK1 hx1 hb1 hx2 hb2 H c hT
  rw [hs1] at HFN hl2
  rw [hw1] at hw2
  clear hw1 hs1
  go_enter Tryz.func7, Tryz.ntmps7
  go_wp2_with fail
  rw [← hw2]
  clear hw2
  go_loopg [14] 9 (fun gg s14 wr => ∃ j : Nat, gg = 9 - j ∧ j ≤ 9 ∧ s14 = .int .i64 (j : Int) ∧ w2.grownBy wr (some w.heap.size) ∧ SdSt B h N free S M w.heap.size root j wr ∧ ∀ i, i < j → rulB S M N root i = true)
  case atStart => exact ⟨0, rfl, by omega, rfl, World.grownBy.refl _ _, HST2.out, fun i hi => by omega⟩
  case round =>
    obtain ⟨j, hgj, hj, rfl, hgr, hst, hdj⟩ := hrel
    have HGJ := Lib.hid hgj; have HGR := Lib.hid hgr; have HDJ := Lib.hid hdj
    have HB := Lib.hid (show Below w.heap.size w wr from HB2.out.grown hgr HB2.out.size (fun q hq => by injection hq with hq; omega))
    by_cases hlt : j < 9
    · have l0 : wr.cell? ⟨w.heap.size + 1, j, none⟩ = some (.func (.func (fid j)) #[] #[]) := (World.cell?_of_block (a := ⟨w.heap.size + 1, j, none⟩) (hgr.block _ hl2 (by simp))).trans (HFN.out j hlt)
      have RU := Lib.hid (rul_any j hlt hst)
      have HBAD := Lib.hid (fun hb => soundN_bad hlt HDJ.out hb)
      have HNX := Lib.hid (fun (hb : rulB S M N root j = true) => show ∀ i, i < j + 1 → rulB S M N root i = true from fun i hi => by
        by_cases e : i = j
        · subst e; exact hb
        · exact HDJ.out i (by omega))
      clear hgj hgr hst hdj
      generalize rulB S M N root j = bb at *
      obtain ⟨j', hj'⟩ : ∃ j', j' = j := ⟨_, rfl⟩
      have hjj : j = 0 ∨ j = 1 ∨ j = 2 ∨ j = 3 ∨ j = 4 ∨ j = 5 ∨ j = 6 ∨ j = 7 ∨ j = 8 := by omega
      rcases hjj with rfl | rfl | rfl | rfl | rfl | rfl | rfl | rfl | rfl
      all_goals (
      simp only [fid, List.getD_cons_zero, List.getD_cons_succ] at l0 RU
      go_wp2_with fail
      refine RU.out.mono ?_
      rintro e w3 ⟨rfl, hg3, hst3⟩
      have HG3 := Lib.hid (grown_trans HGR.out hg3); have HST3 := Lib.hid hst3
      have HB3 := Lib.hid (show Below w.heap.size w w3 from HB.out.grown hg3 HB.out.size (fun q hq => by injection hq with hq; omega))
      clear hg3 hst3 l0
      cases bb with
      | false =>
        have HF := Lib.hid (HBAD.out (by first | rfl | trivial))
        go_wp2_with fail
        go_ret
        exact ⟨by rw [HF.out]; first | rfl | simp, HB3.out⟩
      | true =>
        have HN2 := Lib.hid (HNX.out (by first | rfl | trivial)); have HS2 := Lib.hid (HST3.out (by first | rfl | trivial))
        go_wp2_with fail
        go_roundg (9 - (j' + 1))
        case measure => have := HGJ.out; omega
        case rel => exact ⟨j' + 1, rfl, by omega, by rw [hj']; go_num, HG3.out, by rw [hj']; exact HS2.out, by rw [hj']; exact HN2.out⟩)
    · obtain rfl : j = 9 := by omega
      have HZ := Lib.hid (soundN_zero.2 HDJ.out)
      clear hgj hgr hst hdj
      go_wp2_with fail
      go_ret
      exact ⟨by rw [HZ.out]; rfl, HB.out⟩
end
end Go.Proofs.YtibopjjicfiimaaGreatDoor
namespace Go.Proofs.YtibopjjicfiimaaGreatDoor
open Go.RowKit Go.Maps
set_option linter.unusedVariables false
/-- the good words of one memory, turned into those of another -/
structure Iso (S : Nat → Bool) (M : Nat → Nat) (S2 : Nat → Bool) (M2 : Nat → Nat) (φ : Nat → Nat) (G : Nat → Prop) : Prop where
  zero : G 0 ∧ φ 0 = 0
  inj : ∀ x y, G x → G y → φ x = φ y → x = y
  ptr : ∀ x, G x → PtrIn S2 (φ x) = PtrIn S x
  inf : ∀ x, G x → infX S2 M2 (φ x) = infX S M x
  cls : ∀ x, G x → clsX S2 M2 (φ x) = φ (clsX S M x) ∧ G (clsX S M x)
  wrd : ∀ x, G x → wrdX S2 M2 (φ x) = (wrdX S M x).map φ ∧ ∀ y ∈ wrdX S M x, G y
  byt : ∀ x, G x → bytX S2 M2 (φ x) = bytX S M x
  odd : ∀ x, G x → (φ x % 2 = 1 ↔ x % 2 = 1) ∧ (x % 2 = 1 → φ x = x)
section
variable {S S2 : Nat → Bool} {M M2 : Nat → Nat} {φ : Nat → Nat} {G : Nat → Prop}
theorem Iso.eq (I : Iso S M S2 M2 φ G) {x y : Nat} (hx : G x) (hy : G y) : decide (φ x = φ y) = decide (x = y) := by
  rw [Bool.eq_iff_iff, decide_eq_true_eq, decide_eq_true_eq]
  exact ⟨I.inj x y hx hy, fun e => by rw [e]⟩
theorem Iso.mem (I : Iso S M S2 M2 φ G) {x : Nat} {l : List Nat} (hx : G x) (hl : ∀ y ∈ l, G y) : decide (φ x ∈ l.map φ) = decide (x ∈ l) := by
  rw [Bool.eq_iff_iff, decide_eq_true_eq, decide_eq_true_eq, List.mem_map]
  exact ⟨fun ⟨y, hy, e⟩ => by rw [← I.inj y x (hl y hy) hx e]; exact hy, fun h => ⟨x, h, rfl⟩⟩
theorem Iso.knd (I : Iso S M S2 M2 φ G) {x : Nat} (hx : G x) : kndX S2 M2 (φ x) = kndX S M x := by unfold kndX; rw [I.inf x hx]
theorem Iso.siz (I : Iso S M S2 M2 φ G) {x : Nat} (hx : G x) : sizX S2 M2 (φ x) = sizX S M x := by unfold sizX; rw [I.inf x hx]
theorem Iso.mrk (I : Iso S M S2 M2 φ G) {x : Nat} (hx : G x) : mrkX S2 M2 (φ x) = mrkX S M x := by unfold mrkX; rw [I.inf x hx]
theorem Iso.getD (I : Iso S M S2 M2 φ G) (l : List Nat) (i : Nat) : (l.map φ).getD i 0 = φ (l.getD i 0) := by
  rw [List.getD_eq_getElem?_getD, List.getD_eq_getElem?_getD, List.getElem?_map]
  cases l[i]? with
  | none => exact I.zero.2.symm
  | some y => rfl
theorem Iso.good (I : Iso S M S2 M2 φ G) {l : List Nat} (hl : ∀ y ∈ l, G y) (i : Nat) : G (l.getD i 0) := by
  rw [List.getD_eq_getElem?_getD]
  cases h : l[i]? with
  | none => exact I.zero.1
  | some y => exact hl y (List.mem_of_getElem? h)
theorem Iso.get (I : Iso S M S2 M2 φ G) {x : Nat} (hx : G x) (i : Nat) : getX S2 M2 (φ x) i = φ (getX S M x i) ∧ G (getX S M x i) := by
  unfold getX
  rw [(I.wrd x hx).1, I.getD]
  exact ⟨rfl, I.good (I.wrd x hx).2 i⟩
theorem Iso.fmt (I : Iso S M S2 M2 φ G) {x : Nat} (hx : G x) : fmtX S2 M2 (φ x) = fmtX S M x := by
  obtain ⟨h1, h2⟩ := I.get hx 2
  obtain ⟨o1, o2⟩ := I.odd _ h2
  unfold fmtX
  rw [h1]
  by_cases ho : getX S M x 2 % 2 = 1
  · rw [o2 ho]
  · rw [if_neg (fun hh => ho (o1.1 hh.1)), if_neg (fun hh => ho hh.1)]
variable {sp sp2 : Nat → Nat}
/-- the roots' words are turned -/
def SpOK (φ : Nat → Nat) (G : Nat → Prop) (sp sp2 : Nat → Nat) : Prop := ∀ i, sp2 i = φ (sp i) ∧ G (sp i)
theorem Iso.of (I : Iso S M S2 M2 φ G) (hs : SpOK φ G sp sp2) {x : Nat} (hx : G x) (c : Nat) : ofB S2 M2 sp2 (φ x) c = ofB S M sp x c := by
  unfold ofB; rw [I.ptr x hx, (I.cls x hx).1, (hs c).1, I.eq (I.cls x hx).2 (hs c).2]
theorem Iso.is (I : Iso S M S2 M2 φ G) (hs : SpOK φ G sp sp2) {x : Nat} (hx : G x) (q : Int) (c : Nat) : isB S2 M2 sp2 (φ x) q c = isB S M sp x q c := by
  unfold isB; rw [I.ptr x hx, (I.cls x hx).1, (hs c).1, I.eq (I.cls x hx).2 (hs c).2, I.knd hx]
theorem Iso.tx (I : Iso S M S2 M2 φ G) (hs : SpOK φ G sp sp2) {x : Nat} (hx : G x) : txB S2 M2 sp2 (φ x) = txB S M sp x := by
  unfold txB; rw [I.ptr x hx, (I.cls x hx).1, (hs 13).1, I.eq (I.cls x hx).2 (hs 13).2, I.knd hx]
theorem Iso.sh (I : Iso S M S2 M2 φ G) {x : Nat} (hx : G x) : shB S2 M2 (φ x) = shB S M x := by
  unfold shB; rw [I.ptr x hx, I.knd hx, I.siz hx]
theorem Iso.ris (I : Iso S M S2 M2 φ G) (hs : SpOK φ G sp sp2) : ∀ (l : List Nat) (o : Option (List UInt8)), (∀ y ∈ l, G y) → risF S2 M2 sp2 o (l.map φ) = risF S M sp o l
  | [], o, _ => by rw [List.map_nil, risF_nil, risF_nil]
  | x :: l, o, h => by
    have hx := h x List.mem_cons_self
    rw [List.map_cons, risF_cons, risF_cons, I.tx hs hx, I.byt x hx, I.ris hs l _ (fun y hy => h y (List.mem_cons_of_mem _ hy))]
theorem Iso.nth (I : Iso S M S2 M2 φ G) (n : Nat) (l : List Nat) (hl : ∀ y ∈ l, G y) : nthL n (l.map φ) = (nthL n l).map φ ∧ ∀ y ∈ nthL n l, G y := by
  unfold nthL
  rw [List.length_map, List.map_map]
  refine ⟨List.map_congr_left fun k _ => I.getD l (k * n), fun y hy => ?_⟩
  obtain ⟨k, -, rfl⟩ := List.mem_map.1 hy
  exact I.good hl _
theorem prsL_map (φ : Nat → Nat) : ∀ l : List Nat, prsL (l.map φ) = (prsL l).map fun p => (φ p.1, φ p.2)
  | a :: b :: l => by show (φ a, φ b) :: prsL (l.map φ) = _; rw [prsL_map φ l]; rfl
  | [a] => rfl
  | [] => rfl
theorem prsL_good {G : Nat → Prop} : ∀ {l : List Nat}, (∀ y ∈ l, G y) → ∀ p ∈ prsL l, G p.1 ∧ G p.2
  | a :: b :: l, h, p, hp => by
    rcases List.mem_cons.1 (show p ∈ (a, b) :: prsL l from hp) with rfl | hp
    · exact ⟨h a (by simp), h b (by simp)⟩
    · exact prsL_good (fun y hy => h y (by simp [hy])) p hp
  | [a], _, p, hp => by cases hp
  | [], _, p, hp => by cases hp
theorem Iso.nam (I : Iso S M S2 M2 φ G) : ∀ (l : List (Nat × Nat)) (seen : List Nat), (∀ p ∈ l, G p.1 ∧ G p.2) → (∀ y ∈ seen, G y) → namF S2 M2 (seen.map φ) (l.map fun p => (φ p.1, φ p.2)) = namF S M seen l
  | [], _, _, _ => rfl
  | (s, c) :: l, seen, h, hs => by
    obtain ⟨h1, h2⟩ := h (s, c) List.mem_cons_self
    rw [List.map_cons, namF_cons, namF_cons, I.sh h2, I.mem h2 hs, (I.get h2 3).1, I.eq (I.get h2 3).2 h1]
    have := I.nam l (seen ++ [c]) (fun p hp => h p (List.mem_cons_of_mem _ hp)) (fun y hy => by rcases List.mem_append.1 hy with hy | hy; exact hs y hy; rw [List.mem_singleton.1 hy]; exact h2)
    rw [List.map_append] at this
    rw [show seen.map φ ++ [φ c] = seen.map φ ++ [c].map φ from rfl, this]
theorem Iso.bn (I : Iso S M S2 M2 φ G) (l : List (Nat × Nat)) (h : ∀ p ∈ l, G p.1 ∧ G p.2) (s : List UInt8) : ((bnF S2 M2 (l.map fun p => (φ p.1, φ p.2))) s).getD 0 = φ (((bnF S M l) s).getD 0) ∧ G (((bnF S M l) s).getD 0) := by
  have key : ∀ (l : List (Nat × Nat)) (f f2 : List UInt8 → Option Nat), (∀ p ∈ l, G p.1 ∧ G p.2) → ((f2 s).getD 0 = φ ((f s).getD 0) ∧ G ((f s).getD 0)) → (((l.map fun p => (φ p.1, φ p.2)).foldl (fun f p => updS f (bytX S2 M2 p.1) p.2) f2) s).getD 0 = φ (((l.foldl (fun f p => updS f (bytX S M p.1) p.2) f) s).getD 0) ∧ G (((l.foldl (fun f p => updS f (bytX S M p.1) p.2) f) s).getD 0) := by
    intro l
    induction l with
    | nil => intro f f2 _ hf; exact hf
    | cons p l ih =>
      intro f f2 h hf
      rw [List.map_cons, List.foldl_cons, List.foldl_cons]
      refine ih _ _ (fun q hq => h q (List.mem_cons_of_mem _ hq)) ?_
      obtain ⟨h1, h2⟩ := h p List.mem_cons_self
      unfold updS
      rw [I.byt _ h1]
      by_cases e : s = bytX S M p.1
      · rw [if_pos e, if_pos e]; exact ⟨rfl, h2⟩
      · rw [if_neg e, if_neg e]; exact hf
  exact key l _ _ h ⟨I.zero.2.symm, I.zero.1⟩
theorem Iso.rootB (I : Iso S M S2 M2 φ G) {root : Nat} (hr : G root) : SpOK φ G (spX S M root) (spX S2 M2 (φ root)) ∧ rootB S2 M2 (φ root) = Go.Proofs.YtibopjjicfiimaaGreatDoor.rootB S M root := by
  have hs : SpOK φ G (spX S M root) (spX S2 M2 (φ root)) := fun i => I.get hr i
  refine ⟨hs, ?_⟩
  rw [rootB_def, rootB_def, (I.wrd root hr).1, List.length_map, I.knd hr, (hs 3).1, (hs 4).1, (hs 21).1, (hs 0).1, (hs 1).1, (hs 2).1, I.is hs (hs 3).2, I.is hs (hs 4).2, I.is hs (hs 21).2, I.is hs hr, I.of hs (hs 0).2, I.of hs (hs 1).2, I.of hs (hs 2).2]
theorem Iso.clsL (I : Iso S M S2 M2 φ G) (hs : SpOK φ G sp sp2) : clsL S2 M2 sp2 = (Go.Proofs.YtibopjjicfiimaaGreatDoor.clsL S M sp).map φ ∧ ∀ y ∈ Go.Proofs.YtibopjjicfiimaaGreatDoor.clsL S M sp, G y := by
  unfold Go.Proofs.YtibopjjicfiimaaGreatDoor.clsL
  rw [(hs 3).1, (I.wrd _ (hs 3).2).1, prsL_map, List.map_map, List.map_map]
  refine ⟨rfl, fun y hy => ?_⟩
  obtain ⟨p, hp, rfl⟩ := List.mem_map.1 hy
  exact (prsL_good (I.wrd _ (hs 3).2).2 p hp).2
theorem Iso.namB (I : Iso S M S2 M2 φ G) (hs : SpOK φ G sp sp2) : namB S2 M2 sp2 = Go.Proofs.YtibopjjicfiimaaGreatDoor.namB S M sp := by
  have hw := I.wrd _ (hs 3).2
  have hp := prsL_good hw.2
  have hn := I.nth 2 _ hw.2
  rw [namB_def, namB_def, (hs 3).1, hw.1, List.length_map, prsL_map, hn.1, I.ris hs _ _ hn.2, show namF S2 M2 [] ((prsL (wrdX S M (sp 3))).map fun p => (φ p.1, φ p.2)) = namF S M [] (prsL (wrdX S M (sp 3))) from I.nam _ [] hp (fun y hy => by cases hy)]
  congr 1
  unfold kerB
  rw [Bool.eq_iff_iff, List.all_eq_true, List.all_eq_true]
  refine forall_congr' fun i => forall_congr' fun _ => ?_
  obtain ⟨b1, b2⟩ := I.bn _ hp (kn i).data.toList
  rw [b1, (hs (5 + i)).1, I.eq b2 (hs (5 + i)).2]
  rw [show decide (φ (((bnF S M (prsL (wrdX S M (sp 3)))) (kn i).data.toList).getD 0) ≠ 0) = decide (((bnF S M (prsL (wrdX S M (sp 3)))) (kn i).data.toList).getD 0 ≠ 0) from by
    have := I.eq b2 I.zero.1
    rw [I.zero.2] at this
    rw [Bool.eq_iff_iff, decide_eq_true_eq, decide_eq_true_eq] at this ⊢
    exact not_congr this]
theorem Iso.pair (I : Iso S M S2 M2 φ G) (hs : SpOK φ G sp sp2) : ∀ (l seen : List Nat), (∀ y ∈ l, G y) → (∀ y ∈ seen, G y) → pairF S2 M2 sp2 (seen.map φ) (l.map φ) = pairF S M sp seen l
  | [], _, _, _ => rfl
  | c :: l, seen, h, hn => by
    have hc := h c List.mem_cons_self
    obtain ⟨m1, m2⟩ := I.cls c hc
    rw [List.map_cons, pairF_cons, pairF_cons, m1, I.sh m2, I.of hs m2, (I.get m2 3).1, I.eq (I.get m2 3).2 hc, I.mem m2 hn]
    have := I.pair hs l (seen ++ [clsX S M c]) (fun y hy => h y (List.mem_cons_of_mem _ hy)) (fun y hy => by rcases List.mem_append.1 hy with hy | hy; exact hn y hy; rw [List.mem_singleton.1 hy]; exact m2)
    rw [List.map_append] at this
    rw [show seen.map φ ++ [φ (clsX S M c)] = seen.map φ ++ [clsX S M c].map φ from rfl, this]
theorem Iso.up (I : Iso S M S2 M2 φ G) (hs : SpOK φ G sp sp2) : ∀ (f c : Nat), G c → upF S2 M2 sp2 f (φ c) = upF S M sp f c
  | 0, c, hc => by rw [upF_zero, upF_zero, (hs 0).1, I.eq hc (hs 0).2]
  | f + 1, c, hc => by rw [upF_succ, upF_succ, (hs 0).1, I.eq hc (hs 0).2, (I.get hc 0).1, I.up hs f _ (I.get hc 0).2]
theorem Iso.tow (I : Iso S M S2 M2 φ G) (hs : SpOK φ G sp sp2) {cls : List Nat} (hl : ∀ y ∈ cls, G y) {c : Nat} (hc : G c) : towX S2 M2 sp2 (cls.map φ) (φ c) = towX S M sp cls c := by
  obtain ⟨m1, m2⟩ := I.cls c hc
  obtain ⟨g1, g2⟩ := I.get hc 0
  unfold towX wantX
  rw [List.length_map, I.up hs _ _ hc, g1, m1, (I.get m2 0).1, (hs 5).1, (hs 6).1, (hs 0).1, (I.cls _ g2).1]
  by_cases h5 : c = sp 5
  · rw [if_pos (by rw [h5]), if_pos h5, if_pos (by rw [h5]), if_pos h5, I.eq g2 (hs 0).2, I.eq (I.get m2 0).2 (hs 6).2]
  · have h5' : φ c ≠ φ (sp 5) := fun e => h5 (I.inj _ _ hc (hs 5).2 e)
    rw [if_neg h5', if_neg h5, if_neg h5', if_neg h5, I.mem g2 hl, I.eq (I.get m2 0).2 (I.cls _ g2).2]
theorem all_map_congr {cls : List Nat} {p q : Nat → Bool} (h : ∀ c ∈ cls, p (φ c) = q c) : (cls.map φ).all p = cls.all q := by
  rw [Bool.eq_iff_iff, List.all_eq_true, List.all_eq_true]
  constructor
  · intro ha c hc; rw [← h c hc]; exact ha _ (List.mem_map_of_mem hc)
  · intro ha c hc
    obtain ⟨y, hy, rfl⟩ := List.mem_map.1 hc
    rw [h y hy]; exact ha y hy
theorem Iso.fit5 (I : Iso S M S2 M2 φ G) {c : Nat} (hc : G c) : fit5 S2 M2 (φ c) = Go.Proofs.YtibopjjicfiimaaGreatDoor.fit5 S M c := by
  unfold Go.Proofs.YtibopjjicfiimaaGreatDoor.fit5
  rw [(I.cls c hc).1, I.fmt (I.cls c hc).2]
theorem Iso.fitX (I : Iso S M S2 M2 φ G) {cls : List Nat} (hl : ∀ y ∈ cls, G y) {x : Nat} (hx : G x) : fitX S2 M2 (cls.map φ) (φ x) = Go.Proofs.YtibopjjicfiimaaGreatDoor.fitX S M cls x := by
  obtain ⟨m1, m2⟩ := I.cls x hx
  unfold Go.Proofs.YtibopjjicfiimaaGreatDoor.fitX
  rw [m1, I.fmt m2, I.knd hx, I.siz hx]
  rw [show (cls.map φ).flatMap (fun c => [c, clsX S2 M2 c]) = (cls.flatMap (fun c => [c, clsX S M c])).map φ from by
    have key : ∀ l : List Nat, (∀ y ∈ l, G y) → (l.map φ).flatMap (fun c => [c, clsX S2 M2 c]) = (l.flatMap (fun c => [c, clsX S M c])).map φ := by
      intro l
      induction l with
      | nil => intro _; rfl
      | cons a l ih =>
        intro h
        rw [List.map_cons, List.flatMap_cons, List.flatMap_cons, List.map_append, ih (fun y hy => h y (List.mem_cons_of_mem _ hy)), (I.cls a (h a List.mem_cons_self)).1]
        rfl
    exact key cls hl]
  rw [I.mem m2 (fun y hy => by
    obtain ⟨c, hc, hy⟩ := List.mem_flatMap.1 hy
    simp only [List.mem_cons, List.not_mem_nil, or_false] at hy
    rcases hy with rfl | rfl
    · exact hl _ hc
    · exact (I.cls _ (hl _ hc)).2)]
theorem Iso.ansX (I : Iso S M S2 M2 φ G) (hs : SpOK φ G sp sp2) {k : Nat} (hk : G k) : ansX S2 M2 sp2 (φ k) = Go.Proofs.YtibopjjicfiimaaGreatDoor.ansX S M sp k := by
  obtain ⟨g1, g2⟩ := I.get hk 1
  obtain ⟨v1, v2⟩ := I.get hk 4
  have hw := I.wrd _ g2
  have hv := I.wrd _ v2
  have hn := I.nth 2 _ hw.2
  have hp := prsL_good hw.2
  rw [ansX_def, ansX_def, g1, v1, hw.1, hv.1, List.length_map, I.is hs g2, I.is hs v2, hn.1, I.ris hs _ _ hn.2, prsL_map, all_map_congr (fun y hy => I.tx hs (hv.2 y hy))]
  congr 2
  rw [Bool.eq_iff_iff, List.all_eq_true, List.all_eq_true]
  constructor
  · intro ha p hpp
    have := ha _ (List.mem_map_of_mem hpp)
    rwa [I.of hs (hp p hpp).2] at this
  · intro ha p hpp
    obtain ⟨q, hq, rfl⟩ := List.mem_map.1 hpp
    show ofB S2 M2 sp2 (φ q.2) 15 = true
    rw [I.of hs (hp q hq).2]; exact ha q hq
theorem Iso.ansB (I : Iso S M S2 M2 φ G) (hs : SpOK φ G sp sp2) {cls : List Nat} (hl : ∀ y ∈ cls, G y) : ansB S2 M2 sp2 (cls.map φ) = Go.Proofs.YtibopjjicfiimaaGreatDoor.ansB S M sp cls := by
  unfold Go.Proofs.YtibopjjicfiimaaGreatDoor.ansB
  refine all_map_congr fun c hc => ?_
  rw [I.ansX hs (hl c hc), (I.cls c (hl c hc)).1, I.ansX hs (I.cls c (hl c hc)).2]
end
end Go.Proofs.YtibopjjicfiimaaGreatDoor
