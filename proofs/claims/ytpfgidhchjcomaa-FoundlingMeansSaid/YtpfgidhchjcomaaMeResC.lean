/- Resolve, of a method that Check passes. -/
import Derived.Test.YtpfgidhchjcomaaMeResA
import Derived.Test.YtpfgidhchjcomaaMeResB
namespace Go.Proofs.Ytpfgidhchjcomaa
open Go.RowKit
set_option linter.unusedVariables false
theorem leaves_tmps {P : Program} {fn : Func} {t1 t2 : Array Value} {R : Ending → World → Prop} (hr : results fn t1 = results fn t2) : ∀ (ds : List Deferred) (u : FrameMode) (w : World), Leaves P fn t1 R ds u w → Leaves P fn t2 R ds u w
  | [], .returning, w, ⟨v, h1, h2⟩ => ⟨v, by rw [← hr]; exact h1, h2⟩
  | [], .panicking chain, w, h => h
  | [], .run, w, h => h.elim
  | d :: ds, u, w, ⟨h1, fv, cap, f, args, h2, h3, h4⟩ => ⟨h1, fv, cap, f, args, h2, h3, h4.mono fun e u' w' h => by
      cases e with
      | returned v => exact leaves_tmps hr ds _ _ h
      | panicked c => exact leaves_tmps hr ds _ _ h
      | outgrown => exact h⟩
theorem results_put (tmps : Array Value) (k : Nat) (v : Value) (hk : (k == 6 || k == 7 || k == 8) = false) : results Try.f4 (tmps.setIfInBounds k v) = results Try.f4 tmps := by
  simp at hk
  obtain ⟨⟨h6, h7⟩, h8⟩ := hk
  have e6 : (tmps.setIfInBounds k v)[6]? = tmps[6]? := by simp [h6]
  have e7 : (tmps.setIfInBounds k v)[7]? = tmps[7]? := by simp [h7]
  have e8 : (tmps.setIfInBounds k v)[8]? = tmps[8]? := by simp [h8]
  unfold results
  simp only [Try.results4]
  simp [e6, e7, e8]
theorem leavesQ {R : Ending → World → Prop} (c : List PanicEntry) (a : Act) (w : World) (k : Nat) (v : Value) (hk : (k == 6 || k == 7 || k == 8) = false) (h : bodyPostD Try.prog Try.f4 R (.panic c) (a.put (some k) v) w) : bodyPostD Try.prog Try.f4 R (.panic c) a w :=
  leaves_tmps (results_put a.tmps k v hk) a.defers _ _ h
/-- what resolving gives -/
def resM (F G : List ByteArray) (d : Nat) (ps ts : List ByteArray) (l : List Nd) : Option (List It × Nat) :=
  match declAll F [] 0 (namesP ps ++ namesV ts) with
  | none => none
  | some q => Kf F G (d + 1) q.1 q.2 l
def deferD (P1 : Nat) : Deferred := { target := .fn (.func 11) #[.pointer (some ⟨P1, 0, none⟩), .pointer (some ⟨P1 + 1, 0, none⟩), .pointer (some ⟨P1 + 1 + 1, 0, none⟩)], args := #[] }
theorem door_no (R : Ending → World → Prop) (B P1 : Nat) (tmps : Array Value) (wX : World) (h6 : tmps.getD 6 undef = .pointer (some ⟨P1, 0, none⟩)) (h7 : tmps.getD 7 undef = .pointer (some ⟨P1 + 1, 0, none⟩)) (h8 : tmps.getD 8 undef = .pointer (some ⟨P1 + 1 + 1, 0, none⟩)) (c0 c1 c2 c3 c4 x0 y0 : Value)
    (h1 : wX.heap[P1]? = some (.cells #[c0, c1, c2, c3, c4] 35 (0, 0))) (h2 : wX.heap[P1 + 1]? = some (.cells #[x0] 3 (0, 0))) (h3 : wX.heap[P1 + 1 + 1]? = some (.cells #[y0] 36 (0, 0))) (hB : B ≤ P1) (at_ : Int) (ch : List PanicEntry) (hf : Faulted at_ (.panicked ch))
    (hR : ∀ e' w', e' ≠ 0 → Below B wX w' → R (.returned (.tuple #[codeV ⟨#[]⟩ 0 0 0 (.slice none 0 0), .int .i64 at_, .int .i64 e'])) w') : Leaves Try.prog Try.f4 tmps R [deferD P1] (.panicking ch) wX := by
  obtain ⟨e', hne, he⟩ := hf
  injection he with he
  subst he
  refine leaves_cons (f := 11) (args := #[.pointer (some ⟨P1, 0, none⟩), .pointer (some ⟨P1 + 1, 0, none⟩), .pointer (some ⟨P1 + 1 + 1, 0, none⟩)]) (by simp) (by simp [go_sem]) ?_
  refine (catch_any B P1 c0 c1 c2 c3 c4 x0 y0 at_ e' wX [] h1 h2 h3 hB).mono ?_
  rintro e u' w' ⟨rfl, rfl, x1, x2, x3, hb⟩
  exact ⟨_, results_three Try.results4 tmps w' ⟨P1, 0, none⟩ ⟨P1 + 1, 0, none⟩ ⟨P1 + 1 + 1, 0, none⟩ _ _ _ h6 h7 h8 (run_loadVar_row _ _ 35 _ _ (0, 0) _ x1 Try.underlying35 rfl (by kernel_rfl)) (load_int _ _ _ x2) (load_errno _ _ _ x3), hR e' w' hne hb⟩
theorem door_yes (R : Ending → World → Prop) (P1 : Nat) (tmps : Array Value) (wX : World) (v : Value) (hr : (results Try.f4 tmps).run Try.prog wX = .ok v wX) (hR : R (.returned v) wX) : Leaves Try.prog Try.f4 tmps R [deferD P1] .returning wX := by
  refine leaves_cons (f := 11) (args := #[.pointer (some ⟨P1, 0, none⟩), .pointer (some ⟨P1 + 1, 0, none⟩), .pointer (some ⟨P1 + 1 + 1, 0, none⟩)]) (by simp) (by simp [go_sem]) ?_
  refine (idle_any _ _ _ wX).mono ?_
  rintro e u' w' ⟨rfl, rfl, rfl⟩
  exact ⟨_, hr, hR⟩
def ResPost (w : World) (d : Nat) (nm : ByteArray) (ps : List ByteArray) (pr : Int) (r : Option (List It × Nat)) (e : Ending) (w' : World) : Prop :=
  match r with
  | none => (∃ at_ e' : Int, e' ≠ 0 ∧ e = .returned (.tuple #[codeV ⟨#[]⟩ 0 0 0 (.slice none 0 0), .int .i64 at_, .int .i64 e'])) ∧ Below w.heap.size w w'
  | some q => (∃ v', e = .returned (.tuple #[codeV nm (ps.length : Int) (q.2 : Int) pr v', .int .i64 0, .int .i64 0]) ∧ ItsX 73 (fun b => w.heap.size ≤ b) (d + 1) w' v' q.1) ∧ Below w.heap.size w w'
set_option maxRecDepth 100000 in
set_option maxHeartbeats 4000000 in
theorem resolve_good (x : Nat → Prop) (d : Nat) (nm : ByteArray) (pv tv : Value) (ps ts : List ByteArray) (pr : Int) (v fv gv : Value) (at_ : Int) (l : List Nd) (F G : List ByteArray) (w : World) (hd : d < 900) (hp : StrsX x w pv ps) (ht : StrsX x w tv ts) (h : NodesX x (d + 1) w v l) (hF : StrsX x w fv F) (hG : StrsX x w gv G) (hFn : F.length ≤ 1000) (hok : checkM d nm ps ts pr l = 0) (hl : okL (d + 1) l) :
    Calls Try.prog 4 #[.agg #[.string nm, pv, tv, .int .i64 pr, v, .int .i64 at_], fv, gv] w fun e w' => ResPost w d nm ps pr (resM F G d ps ts l) e w' := by
  obtain ⟨pa, pc, rfl, -⟩ := id hp
  obtain ⟨ta, tc, rfl, -⟩ := id ht
  obtain ⟨va, vc, rfl, -⟩ := id h.shape
  obtain ⟨fa, fc, rfl, -⟩ := id hF
  obtain ⟨ga, gc, rfl, -⟩ := id hG
  have CA := Lib.hid (fun W (hW : Below w.heap.size w W) => check_any x d nm _ _ ps ts pr _ at_ l W hd (hp.later hW) (ht.later hW) (h.later hW))
  rw [hok] at CA
  have HP := Lib.hid (show StrsX (· < w.heap.size) w (.slice pa ps.length pc) ps from hp.turn fun b hb _ => hb)
  have HT := Lib.hid (show StrsX (· < w.heap.size) w (.slice ta ts.length tc) ts from ht.turn fun b hb _ => hb)
  have HN := Lib.hid (show NodesX (· < w.heap.size) (d + 1) w (.slice va l.length vc) l from h.turn fun b hb _ => hb)
  have HF := Lib.hid (show StrsX (· < w.heap.size) w (.slice fa F.length fc) F from hF.turn fun b hb _ => hb)
  have HG := Lib.hid (show StrsX (· < w.heap.size) w (.slice ga G.length gc) G from hG.turn fun b hb _ => hb)
  have HFN := Lib.hid hFn
  have HL := Lib.hid hl
  have hpl : ps.length ≤ maxLen := by obtain ⟨_, _, e, h1, h2, -⟩ := hp; omega
  have HPL := Lib.hid hpl
  clear hp ht h hF hG hok hFn hl hpl
  have hb0 : Below w.heap.size w ((((w.alloc (.cells #[.string nm, .slice pa ps.length pc, .slice ta ts.length tc, .int .i64 pr, .slice va l.length vc, .int .i64 at_] 32)).alloc (.cells #[.string ⟨#[]⟩, .int .i64 0, .int .i64 0, .int .i64 0, .slice none 0 0] 35)).alloc (.cells #[.int .i64 0] 3)).alloc (.cells #[.int .i64 0] 36)) := ((((Below.refl _ _).alloc (Nat.le_refl _) _).alloc (by simp) _).alloc (by simp; omega) _).alloc (by simp; omega) _
  have hq0 : ((((w.alloc (.cells #[.string nm, .slice pa ps.length pc, .slice ta ts.length tc, .int .i64 pr, .slice va l.length vc, .int .i64 at_] 32)).alloc (.cells #[.string ⟨#[]⟩, .int .i64 0, .int .i64 0, .int .i64 0, .slice none 0 0] 35)).alloc (.cells #[.int .i64 0] 3)).alloc (.cells #[.int .i64 0] 36)).heap[w.heap.size]? = some (.cells #[.string nm, .slice pa ps.length pc, .slice ta ts.length tc, .int .i64 pr, .slice va l.length vc, .int .i64 at_] 32 (0, 0)) := (heap_alloc_old _ _ _ (by first | (simp; done) | (simp; omega))).trans ((heap_alloc_old _ _ _ (by first | (simp; done) | (simp; omega))).trans ((heap_alloc_old _ _ _ (by simp)).trans (heap_alloc_new w _)))
  have hq1 : ((((w.alloc (.cells #[.string nm, .slice pa ps.length pc, .slice ta ts.length tc, .int .i64 pr, .slice va l.length vc, .int .i64 at_] 32)).alloc (.cells #[.string ⟨#[]⟩, .int .i64 0, .int .i64 0, .int .i64 0, .slice none 0 0] 35)).alloc (.cells #[.int .i64 0] 3)).alloc (.cells #[.int .i64 0] 36)).heap[w.heap.size + 1]? = some (.cells #[.string ⟨#[]⟩, .int .i64 0, .int .i64 0, .int .i64 0, .slice none 0 0] 35 (0, 0)) := (heap_alloc_old _ _ _ (by first | (simp; done) | (simp; omega))).trans ((heap_alloc_old _ _ _ (by first | (simp; done) | (simp; omega))).trans (heap_alloc2_new w _ _))
  have hq2 : ((((w.alloc (.cells #[.string nm, .slice pa ps.length pc, .slice ta ts.length tc, .int .i64 pr, .slice va l.length vc, .int .i64 at_] 32)).alloc (.cells #[.string ⟨#[]⟩, .int .i64 0, .int .i64 0, .int .i64 0, .slice none 0 0] 35)).alloc (.cells #[.int .i64 0] 3)).alloc (.cells #[.int .i64 0] 36)).heap[w.heap.size + 2]? = some (.cells #[.int .i64 0] 3 (0, 0)) := by
    have := heap_alloc_new ((w.alloc (.cells #[.string nm, .slice pa ps.length pc, .slice ta ts.length tc, .int .i64 pr, .slice va l.length vc, .int .i64 at_] 32)).alloc (.cells #[.string ⟨#[]⟩, .int .i64 0, .int .i64 0, .int .i64 0, .slice none 0 0] 35)) (.cells #[.int .i64 0] 3)
    refine (heap_alloc_old _ _ _ (by simp)).trans ?_
    simpa using this
  have hq3 : ((((w.alloc (.cells #[.string nm, .slice pa ps.length pc, .slice ta ts.length tc, .int .i64 pr, .slice va l.length vc, .int .i64 at_] 32)).alloc (.cells #[.string ⟨#[]⟩, .int .i64 0, .int .i64 0, .int .i64 0, .slice none 0 0] 35)).alloc (.cells #[.int .i64 0] 3)).alloc (.cells #[.int .i64 0] 36)).heap[w.heap.size + 3]? = some (.cells #[.int .i64 0] 36 (0, 0)) := by
    have := heap_alloc_new (((w.alloc (.cells #[.string nm, .slice pa ps.length pc, .slice ta ts.length tc, .int .i64 pr, .slice va l.length vc, .int .i64 at_] 32)).alloc (.cells #[.string ⟨#[]⟩, .int .i64 0, .int .i64 0, .int .i64 0, .slice none 0 0] 35)).alloc (.cells #[.int .i64 0] 3)) (.cells #[.int .i64 0] 36)
    simpa using this
  have hsz0 : ((((w.alloc (.cells #[.string nm, .slice pa ps.length pc, .slice ta ts.length tc, .int .i64 pr, .slice va l.length vc, .int .i64 at_] 32)).alloc (.cells #[.string ⟨#[]⟩, .int .i64 0, .int .i64 0, .int .i64 0, .slice none 0 0] 35)).alloc (.cells #[.int .i64 0] 3)).alloc (.cells #[.int .i64 0] 36)).heap.size = w.heap.size + 4 := by simp
  have hmf : ∀ (fn : Fn) (first cap : Array Value) (w : World), (Instr.makeFunc fn first cap).run Try.prog w = .ok (.func fn first cap) w := fun _ _ _ _ => rfl
  go_enter_defers Try.func4, Try.ntmps4
  go_upto_region 1 with fail
  generalize ((((w.alloc (.cells #[.string nm, .slice pa ps.length pc, .slice ta ts.length tc, .int .i64 pr, .slice va l.length vc, .int .i64 at_] 32)).alloc (.cells #[.string ⟨#[]⟩, .int .i64 0, .int .i64 0, .int .i64 0, .slice none 0 0] 35)).alloc (.cells #[.int .i64 0] 3)).alloc (.cells #[.int .i64 0] 36)) = w0 at *
  have HB0 := Lib.hid hb0
  have n0 := cell_of_row w0 w.heap.size 0 _ _ _ hq0
  have n1 := cell_of_row w0 w.heap.size 1 _ _ _ hq0
  have n2 := cell_of_row w0 w.heap.size 2 _ _ _ hq0
  have n3 := cell_of_row w0 w.heap.size 3 _ _ _ hq0
  have n4 := cell_of_row w0 w.heap.size 4 _ _ _ hq0
  have n5 := cell_of_row w0 w.heap.size 5 _ _ _ hq0
  simp at n0 n1 n2 n3 n4 n5
  have Q0 := Lib.hid hq0
  have Q1 := Lib.hid hq1
  have Q2 := Lib.hid hq2
  have Q3 := Lib.hid hq3
  clear hb0 hq0 hq1 hq2 hq3
  go_wp2_with fail
  refine (CA.out _ HB0.out).mono ?_
  rintro e w5 ⟨rfl, h5⟩
  have H5 := Lib.hid h5
  have z5 := h5.size
  have hb5 := HB0.out.trans (h5.mono HB0.out.size)
  have HB5 := Lib.hid hb5
  have HR := Lib.hid (show RsAt w5.heap.size (w5.alloc (.cells #[.slice none 0 0, .int .i64 0, .slice fa F.length fc, .slice ga G.length gc] 56)) w5.heap.size [] 0 (.slice fa F.length fc) (.slice ga G.length gc) F G from
    ⟨⟨.slice none 0 0, heap_alloc_new w5 _, World.ownsRow_nil _ _ _ _⟩, ((HF.out.later hb5).later ((Below.refl _ _).alloc (Nat.le_refl _) _)).weak (fun b hb => by omega), ((HG.out.later hb5).later ((Below.refl _ _).alloc (Nat.le_refl _) _)).weak (fun b hb => by omega), Nat.le_refl _, HFN.out, Nat.le_refl _, by omega⟩)
  have hbR : Below w.heap.size w (w5.alloc (.cells #[.slice none 0 0, .int .i64 0, .slice fa F.length fc, .slice ga G.length gc] 56)) := hb5.alloc (by omega) _
  have p0 := (heap_alloc_old w5 (.cells #[.slice none 0 0, .int .i64 0, .slice fa F.length fc, .slice ga G.length gc] 56) w.heap.size (by omega)).trans ((h5.block w.heap.size (by omega)).trans Q0.out)
  have p1 := (heap_alloc_old w5 (.cells #[.slice none 0 0, .int .i64 0, .slice fa F.length fc, .slice ga G.length gc] 56) (w.heap.size + 1) (by omega)).trans ((h5.block (w.heap.size + 1) (by omega)).trans Q1.out)
  have p2 := (heap_alloc_old w5 (.cells #[.slice none 0 0, .int .i64 0, .slice fa F.length fc, .slice ga G.length gc] 56) (w.heap.size + 2) (by omega)).trans ((h5.block (w.heap.size + 2) (by omega)).trans Q2.out)
  have p3 := (heap_alloc_old w5 (.cells #[.slice none 0 0, .int .i64 0, .slice fa F.length fc, .slice ga G.length gc] 56) (w.heap.size + 3) (by omega)).trans ((h5.block (w.heap.size + 3) (by omega)).trans Q3.out)
  clear hb5 h5 n0 n1 n2 n3 n4 n5 CA
  have hzR : (w5.alloc (.cells #[.slice none 0 0, .int .i64 0, .slice fa F.length fc, .slice ga G.length gc] 56)).heap.size = w5.heap.size + 1 := by simp
  go_upto_region 6 with fail
  generalize (w5.alloc (.cells #[.slice none 0 0, .int .i64 0, .slice fa F.length fc, .slice ga G.length gc] 56)) = wR at *
  generalize w5.heap.size = p at *
  have n0 := cell_of_row wR w.heap.size 0 _ _ _ p0
  have n1 := cell_of_row wR w.heap.size 1 _ _ _ p0
  have n2 := cell_of_row wR w.heap.size 2 _ _ _ p0
  have n3 := cell_of_row wR w.heap.size 3 _ _ _ p0
  have n4 := cell_of_row wR w.heap.size 4 _ _ _ p0
  have n5 := cell_of_row wR w.heap.size 5 _ _ _ p0
  simp at n0 n1 n2 n3 n4 n5
  have P0 := Lib.hid p0
  have P1 := Lib.hid p1
  have P2 := Lib.hid p2
  have P3 := Lib.hid p3
  have HBR := Lib.hid hbR
  clear p0 p1 p2 p3 hbR
  have hwp : w.heap.size ≤ p := by omega
  have NA := Lib.hid (names_any p p [] 0 _ _ F G _ _ ps ts at_ wR HR.out ((HP.out.later HBR.out).weak fun b hb => by omega) ((HT.out.later HBR.out).weak fun b hb => by omega))
  cases hx : declAll F [] 0 (namesP ps ++ namesV ts) with
  | none =>
    have HX := Lib.hid (show resM F G d ps ts l = none by unfold resM; rw [hx])
    rw [hx] at NA
    clear hx
    go_wp2_with fail
    refine NA.out.mono ?_
    rintro e w6 ⟨hf, h6⟩
    have hf' := hf
    obtain ⟨e', hne, rfl⟩ := hf
    have z1 := (h6.block (w.heap.size + 1) (by omega)).trans P1.out
    have z2 := (h6.block (w.heap.size + 1 + 1) (by omega)).trans P2.out
    have z3 := (h6.block (w.heap.size + 1 + 1 + 1) (by omega)).trans P3.out
    have hb6 := HBR.out.trans (h6.mono hwp)
    refine door_no _ w.heap.size (w.heap.size + 1) _ _ rfl rfl rfl _ _ _ _ _ _ _ z1 z2 z3 (by omega) at_ _ hf' fun e2 w' hne2 hb => ?_
    rw [HX.out]
    exact ⟨⟨at_, e2, hne2, rfl⟩, hb6.trans hb⟩
  | some q =>
    obtain ⟨kn, sl⟩ := q
    rw [hx] at NA
    go_wp2_with fail
    refine NA.out.mono ?_
    rintro e w6 ⟨rfl, hr6, hk6, h6⟩
    have H6 := Lib.hid h6
    have z6 := h6.size
    have p0 := (h6.block w.heap.size (by omega)).trans P0.out
    have m0 := cell_of_row w6 w.heap.size 0 _ _ _ p0
    have m1 := cell_of_row w6 w.heap.size 1 _ _ _ p0
    have m3 := cell_of_row w6 w.heap.size 3 _ _ _ p0
    have m4 := cell_of_row w6 w.heap.size 4 _ _ _ p0
    simp at m0 m1 m3 m4
    have m0' : w6.drew.cell? ⟨w.heap.size, 0, none⟩ = some (.string nm) := m0
    have m1' : w6.drew.cell? ⟨w.heap.size, 1, none⟩ = some (.slice pa ps.length pc) := m1
    have m3' : w6.drew.cell? ⟨w.heap.size, 3, none⟩ = some (.int .i64 pr) := m3
    have m4' : w6.drew.cell? ⟨w.heap.size, 4, none⟩ = some (.slice va l.length vc) := m4
    have AY := Lib.hid (((kc_any p p (.slice fa F.length fc) (.slice ga G.length gc) F G (d + 1)).1 l HL.out) _ kn sl w6.drew (hr6.later (Below.refl _ _).drew) ((HN.out.later ((HBR.out.trans (h6.mono hwp)).drew)).weak fun b hb => by omega))
    have HX := Lib.hid (show resM F G d ps ts l = Kf F G (d + 1) kn sl l by unfold resM; rw [hx])
    clear hx h6 hr6 hk6 p0
    go_upto_region 7 with fail
    clear n0 n1 n2 n3 n4 n5 m0 m1 m3 m4
    refine wp_region_held_drew (S := fun w' => w'.cell? ⟨w.heap.size, 0, none⟩ = some (.string nm) ∧ w'.cell? ⟨w.heap.size, 1, none⟩ = some (.slice pa ps.length pc) ∧ w'.cell? ⟨w.heap.size, 3, none⟩ = some (.int .i64 pr) ∧ w'.cell? ⟨w.heap.size, 4, none⟩ = some (.slice va l.length vc)) (by kernel_rfl) ⟨m0', m1', m3', m4'⟩ (fun hHeld => ?_)
    refine wpAnyH_take (i := 0) (oi := ({ dst := some 32, op := Op.fieldAddr 32 (Operand.tmp 3) 0, type := 0, pos := "scope.go:236", after := #[], guard := none } : Oper)) (v := ?_) rfl (by kernel_rfl) (by kernel_rfl) (by kernel_rfl) (fun c a' w' hq => leavesQ c a' w' _ _ (by decide) hq) (Or.inl ⟨by rfl, ?_⟩) (by assumption) ?_
    rotate_left
    · intro w hSw; (try dsimp only at hSw); go_simp; (try with_reducible rfl)
    try simp only [Act.put, List.setIfInBounds_toArray, List.set_cons_zero, List.set_cons_succ]
    refine wpAnyH_take (i := 1) (oi := ({ dst := some 33, op := Op.load 9 (Operand.tmp 32), type := 9, pos := "scope.go:236", after := #[{ on := 0, ground := Ground.data }], guard := none } : Oper)) (v := ?_) rfl (by kernel_rfl) (by kernel_rfl) (by kernel_rfl) (fun c a' w' hq => leavesQ c a' w' _ _ (by decide) hq) (Or.inl ⟨by rfl, ?_⟩) (by assumption) ?_
    rotate_left
    · intro w hSw; (try dsimp only at hSw); go_simp; (try with_reducible rfl)
    try simp only [Act.put, List.setIfInBounds_toArray, List.set_cons_zero, List.set_cons_succ]
    refine wpAnyH_take (i := 2) (oi := ({ dst := some 34, op := Op.fieldAddr 32 (Operand.tmp 3) 1, type := 0, pos := "scope.go:236", after := #[], guard := none } : Oper)) (v := ?_) rfl (by kernel_rfl) (by kernel_rfl) (by kernel_rfl) (fun c a' w' hq => leavesQ c a' w' _ _ (by decide) hq) (Or.inl ⟨by rfl, ?_⟩) (by assumption) ?_
    rotate_left
    · intro w hSw; (try dsimp only at hSw); go_simp; (try with_reducible rfl)
    try simp only [Act.put, List.setIfInBounds_toArray, List.set_cons_zero, List.set_cons_succ]
    refine wpAnyH_take (i := 3) (oi := ({ dst := some 35, op := Op.load 22 (Operand.tmp 34), type := 22, pos := "scope.go:236", after := #[{ on := 2, ground := Ground.data }], guard := none } : Oper)) (v := ?_) rfl (by kernel_rfl) (by kernel_rfl) (by kernel_rfl) (fun c a' w' hq => leavesQ c a' w' _ _ (by decide) hq) (Or.inl ⟨by rfl, ?_⟩) (by assumption) ?_
    rotate_left
    · intro w hSw; (try dsimp only at hSw); go_simp; (try with_reducible rfl)
    try simp only [Act.put, List.setIfInBounds_toArray, List.set_cons_zero, List.set_cons_succ]
    refine wpAnyH_take (i := 4) (oi := ({ dst := some 36, op := Op.call { callee := Callee.builtin Builtin.len, args := #[Operand.tmp 35], argTypes := #[22] }, type := 3, pos := "scope.go:236", after := #[{ on := 3, ground := Ground.data }], guard := none } : Oper)) (v := ?_) rfl (by kernel_rfl) (by kernel_rfl) (by kernel_rfl) (fun c a' w' hq => leavesQ c a' w' _ _ (by decide) hq) (Or.inl ⟨by rfl, ?_⟩) (by assumption) ?_
    rotate_left
    · intro w hSw; (try dsimp only at hSw); go_simp; (try with_reducible rfl)
    try simp only [Act.put, List.setIfInBounds_toArray, List.set_cons_zero, List.set_cons_succ]
    refine wpAnyH_take (i := 5) (oi := ({ dst := some 37, op := Op.fieldAddr 32 (Operand.tmp 3) 3, type := 0, pos := "scope.go:236", after := #[], guard := none } : Oper)) (v := ?_) rfl (by kernel_rfl) (by kernel_rfl) (by kernel_rfl) (fun c a' w' hq => leavesQ c a' w' _ _ (by decide) hq) (Or.inl ⟨by rfl, ?_⟩) (by assumption) ?_
    rotate_left
    · intro w hSw; (try dsimp only at hSw); go_simp; (try with_reducible rfl)
    try simp only [Act.put, List.setIfInBounds_toArray, List.set_cons_zero, List.set_cons_succ]
    refine wpAnyH_take (i := 6) (oi := ({ dst := some 38, op := Op.load 3 (Operand.tmp 37), type := 3, pos := "scope.go:236", after := #[{ on := 5, ground := Ground.data }], guard := none } : Oper)) (v := ?_) rfl (by kernel_rfl) (by kernel_rfl) (by kernel_rfl) (fun c a' w' hq => leavesQ c a' w' _ _ (by decide) hq) (Or.inl ⟨by rfl, ?_⟩) (by assumption) ?_
    rotate_left
    · intro w hSw; (try dsimp only at hSw); go_simp; (try with_reducible rfl)
    try simp only [Act.put, List.setIfInBounds_toArray, List.set_cons_zero, List.set_cons_succ]
    refine wpAnyH_take (i := 7) (oi := ({ dst := some 39, op := Op.move (Operand.tmp 10), type := 53, pos := "scope.go:236", after := #[], guard := none } : Oper)) (v := ?_) rfl (by kernel_rfl) (by kernel_rfl) (by kernel_rfl) (fun c a' w' hq => leavesQ c a' w' _ _ (by decide) hq) (Or.inl ⟨by rfl, ?_⟩) (by assumption) ?_
    rotate_left
    · intro w hSw; (try dsimp only at hSw); go_simp; (try with_reducible rfl)
    try simp only [Act.put, List.setIfInBounds_toArray, List.set_cons_zero, List.set_cons_succ]
    refine wpAnyH_take (i := 8) (oi := ({ dst := some 40, op := Op.fieldAddr 32 (Operand.tmp 3) 4, type := 0, pos := "scope.go:236", after := #[], guard := none } : Oper)) (v := ?_) rfl (by kernel_rfl) (by kernel_rfl) (by kernel_rfl) (fun c a' w' hq => leavesQ c a' w' _ _ (by decide) hq) (Or.inl ⟨by rfl, ?_⟩) (by assumption) ?_
    rotate_left
    · intro w hSw; (try dsimp only at hSw); go_simp; (try with_reducible rfl)
    try simp only [Act.put, List.setIfInBounds_toArray, List.set_cons_zero, List.set_cons_succ]
    refine wpAnyH_take (i := 9) (oi := ({ dst := some 41, op := Op.load 28 (Operand.tmp 40), type := 28, pos := "scope.go:236", after := #[{ on := 8, ground := Ground.data }], guard := none } : Oper)) (v := ?_) rfl (by kernel_rfl) (by kernel_rfl) (by kernel_rfl) (fun c a' w' hq => leavesQ c a' w' _ _ (by decide) hq) (Or.inl ⟨by rfl, ?_⟩) (by assumption) ?_
    rotate_left
    · intro w hSw; (try dsimp only at hSw); go_simp; (try with_reducible rfl)
    try simp only [Act.put, List.setIfInBounds_toArray, List.set_cons_zero, List.set_cons_succ]
    cases hy : Kf F G (d + 1) kn sl l with
    | none =>
      have HZ := Lib.hid (show resM F G d ps ts l = none by rw [HX.out, hy])
      rw [hy] at AY
      clear hy
      refine wpAnyH_ready (rs := [10]) (by kernel_rfl) (by simp) ?_
      refine AllReadyH.cons (i := 10) (o := { dst := some 42, op := Op.call { callee := Callee.value (Operand.func 13), args := #[Operand.tmp 39, Operand.tmp 41], argTypes := #[53, 28] }, type := 33, pos := "scope.go:236", after := #[{ on := 7, ground := Ground.data }, { on := 9, ground := Ground.data }], guard := none }) rfl (fun K hK => ?_) AllReadyH.nil
      rw [if_pos (by rfl)]
      go_simp
      refine AY.out.mono ?_
      rintro e w8 ⟨⟨a8, hf⟩, h8⟩
      have hf' := hf
      obtain ⟨e', hne, rfl⟩ := hf
      have hb8 : Below p wR w8 := (H6.out.drew).trans h8
      have z1 := (hb8.block (w.heap.size + 1) (by omega)).trans P1.out
      have z2 := (hb8.block (w.heap.size + 1 + 1) (by omega)).trans P2.out
      have z3 := (hb8.block (w.heap.size + 1 + 1 + 1) (by omega)).trans P3.out
      have hbw := HBR.out.trans (hb8.mono hwp)
      refine door_no _ w.heap.size (w.heap.size + 1) _ _ rfl rfl rfl _ _ _ _ _ _ _ z1 z2 z3 (by omega) a8 _ hf' fun e2 w' hne2 hb => ?_
      rw [HZ.out]
      exact ⟨⟨a8, e2, hne2, rfl⟩, hbw.trans hb⟩
    | some q =>
      obtain ⟨its, s'⟩ := q
      have HZ := Lib.hid (show resM F G d ps ts l = some (its, s') by rw [HX.out, hy])
      rw [hy] at AY
      clear hy
      refine wpAnyH_ready (rs := [10]) (by kernel_rfl) (by simp) ?_
      refine AllReadyH.cons (i := 10) (o := { dst := some 42, op := Op.call { callee := Callee.value (Operand.func 13), args := #[Operand.tmp 39, Operand.tmp 41], argTypes := #[53, 28] }, type := 33, pos := "scope.go:236", after := #[{ on := 7, ground := Ground.data }, { on := 9, ground := Ground.data }], guard := none }) rfl (fun K hK => ?_) AllReadyH.nil
      rw [if_pos (by rfl)]
      go_simp
      refine AY.out.mono ?_
      rintro e w8 ⟨v8, rfl, hit, hr8, hk8, h8⟩
      obtain ⟨a8, c8, rfl, -⟩ := id hit.shape
      have hb8 : Below p wR w8 := (H6.out.drew).trans h8
      have z0 := (hb8.block w.heap.size (by omega)).trans P0.out
      have z1 := (hb8.block (w.heap.size + 1) (by omega)).trans P1.out
      have z2 := (hb8.block (w.heap.size + 1 + 1) (by omega)).trans P2.out
      have z3 := (hb8.block (w.heap.size + 1 + 1 + 1) (by omega)).trans P3.out
      have m0 := cell_of_row w8 w.heap.size 0 _ _ _ z0
      have m1 := cell_of_row w8 w.heap.size 1 _ _ _ z0
      have m3 := cell_of_row w8 w.heap.size 3 _ _ _ z0
      have m4 := cell_of_row w8 w.heap.size 4 _ _ _ z0
      simp at m0 m1 m3 m4
      have k0 := cell_of_row w8 (w.heap.size + 1) 0 _ _ _ z1
      have k1 := cell_of_row w8 (w.heap.size + 1) 1 _ _ _ z1
      have k2 := cell_of_row w8 (w.heap.size + 1) 2 _ _ _ z1
      have k3 := cell_of_row w8 (w.heap.size + 1) 3 _ _ _ z1
      have k4 := cell_of_row w8 (w.heap.size + 1) 4 _ _ _ z1
      have f1 : ∀ j, w8.frozen? ⟨w.heap.size + 1, j, none⟩ = false := (by intro j; unfold World.frozen?; rw [z1]; simp)
      simp at k0 k1 k2 k3 k4
      have Z1 := Lib.hid z1
      have Z2 := Lib.hid z2
      have Z3 := Lib.hid z3
      have HIT := Lib.hid hit
      have HR8 := Lib.hid hr8
      have HB8 := Lib.hid hb8
      have z8 := hb8.size
      clear z0 z1 z2 z3 hit hr8 hk8 h8 hb8
      refine hK.out _ _ ⟨m0, m1, m3, m4⟩ (fun hHeld => ?_)
      clear hK K
      refine wpAnyH_take (i := 11) (oi := ({ dst := some 43, op := Op.build 35 #[(0, Operand.tmp 33), (1, Operand.tmp 36), (3, Operand.tmp 38), (4, Operand.tmp 42)], type := 35, pos := "scope.go:236", after := #[{ on := 1, ground := Ground.data }, { on := 4, ground := Ground.data }, { on := 6, ground := Ground.data }, { on := 10, ground := Ground.data }], guard := none } : Oper)) (v := ?_) rfl (by kernel_rfl) (by kernel_rfl) (by kernel_rfl) (fun c a' w' hq => leavesQ c a' w' _ _ (by decide) hq) (Or.inl ⟨by rfl, ?_⟩) (by assumption) ?_
      rotate_left
      · intro w hSw; (try dsimp only at hSw); go_simp; (try with_reducible rfl)
      try simp only [Act.put, List.setIfInBounds_toArray, List.set_cons_zero, List.set_cons_succ]
      refine wpAnyH_ready (rs := [12]) (by kernel_rfl) (by simp) ?_
      refine AllReadyH.cons (i := 12) (o := { dst := none, op := Op.store 35 (Operand.tmp 6) (Operand.tmp 43), type := 0, pos := "scope.go:236", after := #[{ on := 11, ground := Ground.data }, { on := 10, ground := Ground.chain }, { on := 0, ground := Ground.phase }, { on := 1, ground := Ground.phase }, { on := 2, ground := Ground.phase }, { on := 3, ground := Ground.phase }, { on := 4, ground := Ground.phase }, { on := 5, ground := Ground.phase }, { on := 6, ground := Ground.phase }, { on := 7, ground := Ground.phase }, { on := 8, ground := Ground.phase }, { on := 9, ground := Ground.phase }, { on := 10, ground := Ground.phase }, { on := 11, ground := Ground.phase }], guard := none }) rfl (fun K hK => ?_) AllReadyH.nil
      rw [if_pos (by rfl)]
      go_simp
      have s1 := heap_set5 Z1.out (.string nm) (.int .i64 (ps.length : Int)) (.int .i64 0) (.int .i64 pr) (.slice a8 its.length c8)
      have hfar : ∀ k, k ≠ w.heap.size + 1 → (((((w8.setCell ⟨w.heap.size + 1, 0, none⟩ (.string nm)).setCell ⟨w.heap.size + 1, 1, none⟩ (.int .i64 (ps.length : Int))).setCell ⟨w.heap.size + 1, 2, none⟩ (.int .i64 0)).setCell ⟨w.heap.size + 1, 3, none⟩ (.int .i64 pr)).setCell ⟨w.heap.size + 1, 4, none⟩ (.slice a8 its.length c8)).heap[k]? = w8.heap[k]? := fun k hk => (heap_set_far (by omega)).trans ((heap_set_far (by omega)).trans ((heap_set_far (by omega)).trans ((heap_set_far (by omega)).trans ((heap_set_far (by omega)).trans (rfl)))))
      have hbS : Below w.heap.size w (((((w8.setCell ⟨w.heap.size + 1, 0, none⟩ (.string nm)).setCell ⟨w.heap.size + 1, 1, none⟩ (.int .i64 (ps.length : Int))).setCell ⟨w.heap.size + 1, 2, none⟩ (.int .i64 0)).setCell ⟨w.heap.size + 1, 3, none⟩ (.int .i64 pr)).setCell ⟨w.heap.size + 1, 4, none⟩ (.slice a8 its.length c8)) := (((((HBR.out.trans (HB8.out.mono hwp)).setCell (by show _ ≤ w.heap.size + 1; omega) _).setCell (by show _ ≤ w.heap.size + 1; omega) _).setCell (by show _ ≤ w.heap.size + 1; omega) _).setCell (by show _ ≤ w.heap.size + 1; omega) _).setCell (by show _ ≤ w.heap.size + 1; omega) _
      generalize (((((w8.setCell ⟨w.heap.size + 1, 0, none⟩ (.string nm)).setCell ⟨w.heap.size + 1, 1, none⟩ (.int .i64 (ps.length : Int))).setCell ⟨w.heap.size + 1, 2, none⟩ (.int .i64 0)).setCell ⟨w.heap.size + 1, 3, none⟩ (.int .i64 pr)).setCell ⟨w.heap.size + 1, 4, none⟩ (.slice a8 its.length c8)) = wS at *
      have s2 := (hfar (w.heap.size + 1 + 1) (by omega)).trans Z2.out
      have s3 := (hfar (w.heap.size + 1 + 1 + 1) (by omega)).trans Z3.out
      have b0 : wS.cell? ⟨w.heap.size, 0, none⟩ = some (.string nm) := (World.cell?_of_block (a := ⟨w.heap.size, 0, none⟩) (hfar w.heap.size (by omega))).trans m0
      have b1 : wS.cell? ⟨w.heap.size, 1, none⟩ = some (.slice pa ps.length pc) := (World.cell?_of_block (a := ⟨w.heap.size, 1, none⟩) (hfar w.heap.size (by omega))).trans m1
      have b3 : wS.cell? ⟨w.heap.size, 3, none⟩ = some (.int .i64 pr) := (World.cell?_of_block (a := ⟨w.heap.size, 3, none⟩) (hfar w.heap.size (by omega))).trans m3
      have b4 : wS.cell? ⟨w.heap.size, 4, none⟩ = some (.slice va l.length vc) := (World.cell?_of_block (a := ⟨w.heap.size, 4, none⟩) (hfar w.heap.size (by omega))).trans m4
      have sl : wS.cell? ⟨p, 1, none⟩ = some (.int .i64 (s' : Int)) := by
        obtain ⟨_, _, _, g1, -⟩ := HR8.out.get
        exact (World.cell?_of_block (a := ⟨p, 1, none⟩) (hfar p (by omega))).trans g1
      have hiS : ItsX 73 (fun b => w.heap.size + 3 < b) (d + 1) wS (.slice a8 its.length c8) its := (HIT.out.weak (y := fun b => w.heap.size + 3 < b) (fun b hb => by have : w6.heap.size ≤ b := hb; omega)).keep fun k hk hx _ => hfar k (by omega)
      refine hK.out _ _ ⟨b0, b1, b3, b4⟩ (fun hHeld => wpAnyH_done (by kernel_rfl) ?_ _)
      clear hK K hHeld
      clear m0 m1 m3 m4 k0 k1 k2 k3 k4 f1 b0 b1 b3 b4 hfar
      have S1 := Lib.hid s1
      have S2 := Lib.hid s2
      have S3 := Lib.hid s3
      have BS := Lib.hid hbS
      have IS := Lib.hid hiS
      have q0 := cell_of_row wS (w.heap.size + 1) 0 _ _ _ s1
      have q1 := cell_of_row wS (w.heap.size + 1) 1 _ _ _ s1
      have q2 := cell_of_row wS (w.heap.size + 1) 2 _ _ _ s1
      have q3 := cell_of_row wS (w.heap.size + 1) 3 _ _ _ s1
      have q4 := cell_of_row wS (w.heap.size + 1) 4 _ _ _ s1
      have q5 := cell_of_row wS (w.heap.size + 1 + 1) 0 _ _ _ s2
      have q6 := cell_of_row wS (w.heap.size + 1 + 1 + 1) 0 _ _ _ s3
      simp at q0 q1 q2 q3 q4 q5 q6
      have e1 : ∀ j, wS.frozen? ⟨w.heap.size + 1, j, none⟩ = false := (by intro j; unfold World.frozen?; rw [s1]; simp)
      have e2 : wS.frozen? ⟨w.heap.size + 1 + 1, 0, none⟩ = false := (by unfold World.frozen?; rw [s2]; simp)
      have e3 : wS.frozen? ⟨w.heap.size + 1 + 1 + 1, 0, none⟩ = false := (by unfold World.frozen?; rw [s3]; simp)
      clear s1 s2 s3 hbS hiS
      go_wp2_with fail
      have t1 : (wS.setCell ⟨w.heap.size + 1, 2, none⟩ (.int .i64 (s' : Int))).heap[w.heap.size + 1]? = some (.cells #[.string nm, .int .i64 (ps.length : Int), .int .i64 (s' : Int), .int .i64 pr, .slice a8 its.length c8] 35 (0, 0)) := by simpa using heap_set (i := 2) S1.out (.int .i64 (s' : Int))
      have x1 : ((((((((wS.setCell ⟨w.heap.size + 1, 2, none⟩ (.int .i64 (s' : Int))).setCell ⟨w.heap.size + 1, 0, none⟩ (.string nm)).setCell ⟨w.heap.size + 1, 1, none⟩ (.int .i64 (ps.length : Int))).setCell ⟨w.heap.size + 1, 2, none⟩ (.int .i64 (s' : Int))).setCell ⟨w.heap.size + 1, 3, none⟩ (.int .i64 pr)).setCell ⟨w.heap.size + 1, 4, none⟩ (.slice a8 its.length c8)).setCell ⟨w.heap.size + 1 + 1, 0, none⟩ (.int .i64 0)).setCell ⟨w.heap.size + 1 + 1 + 1, 0, none⟩ (.int .i64 0)).heap[w.heap.size + 1]? = some (.cells #[.string nm, .int .i64 (ps.length : Int), .int .i64 (s' : Int), .int .i64 pr, .slice a8 its.length c8] 35 (0, 0)) := (heap_set_far (by omega)).trans ((heap_set_far (by omega)).trans (heap_set5 t1 _ _ _ _ _))
      have y2 : ((((((wS.setCell ⟨w.heap.size + 1, 2, none⟩ (.int .i64 (s' : Int))).setCell ⟨w.heap.size + 1, 0, none⟩ (.string nm)).setCell ⟨w.heap.size + 1, 1, none⟩ (.int .i64 (ps.length : Int))).setCell ⟨w.heap.size + 1, 2, none⟩ (.int .i64 (s' : Int))).setCell ⟨w.heap.size + 1, 3, none⟩ (.int .i64 pr)).setCell ⟨w.heap.size + 1, 4, none⟩ (.slice a8 its.length c8)).heap[w.heap.size + 1 + 1]? = some (.cells #[.int .i64 0] 3 (0, 0)) := (heap_set_far (by omega)).trans ((heap_set_far (by omega)).trans ((heap_set_far (by omega)).trans ((heap_set_far (by omega)).trans ((heap_set_far (by omega)).trans ((heap_set_far (by omega)).trans (S2.out))))))
      have y3 : (((((((wS.setCell ⟨w.heap.size + 1, 2, none⟩ (.int .i64 (s' : Int))).setCell ⟨w.heap.size + 1, 0, none⟩ (.string nm)).setCell ⟨w.heap.size + 1, 1, none⟩ (.int .i64 (ps.length : Int))).setCell ⟨w.heap.size + 1, 2, none⟩ (.int .i64 (s' : Int))).setCell ⟨w.heap.size + 1, 3, none⟩ (.int .i64 pr)).setCell ⟨w.heap.size + 1, 4, none⟩ (.slice a8 its.length c8)).setCell ⟨w.heap.size + 1 + 1, 0, none⟩ (.int .i64 0)).heap[w.heap.size + 1 + 1 + 1]? = some (.cells #[.int .i64 0] 36 (0, 0)) := (heap_set_far (by omega)).trans ((heap_set_far (by omega)).trans ((heap_set_far (by omega)).trans ((heap_set_far (by omega)).trans ((heap_set_far (by omega)).trans ((heap_set_far (by omega)).trans ((heap_set_far (by omega)).trans (S3.out)))))))
      have x2 : ((((((((wS.setCell ⟨w.heap.size + 1, 2, none⟩ (.int .i64 (s' : Int))).setCell ⟨w.heap.size + 1, 0, none⟩ (.string nm)).setCell ⟨w.heap.size + 1, 1, none⟩ (.int .i64 (ps.length : Int))).setCell ⟨w.heap.size + 1, 2, none⟩ (.int .i64 (s' : Int))).setCell ⟨w.heap.size + 1, 3, none⟩ (.int .i64 pr)).setCell ⟨w.heap.size + 1, 4, none⟩ (.slice a8 its.length c8)).setCell ⟨w.heap.size + 1 + 1, 0, none⟩ (.int .i64 0)).setCell ⟨w.heap.size + 1 + 1 + 1, 0, none⟩ (.int .i64 0)).cell? ⟨w.heap.size + 1 + 1, 0, none⟩ = some (.int .i64 0) := cell_of_row _ _ 0 _ _ _ ((heap_set_far (by omega)).trans (heap_set (i := 0) y2 (.int .i64 0)))
      have x3 : ((((((((wS.setCell ⟨w.heap.size + 1, 2, none⟩ (.int .i64 (s' : Int))).setCell ⟨w.heap.size + 1, 0, none⟩ (.string nm)).setCell ⟨w.heap.size + 1, 1, none⟩ (.int .i64 (ps.length : Int))).setCell ⟨w.heap.size + 1, 2, none⟩ (.int .i64 (s' : Int))).setCell ⟨w.heap.size + 1, 3, none⟩ (.int .i64 pr)).setCell ⟨w.heap.size + 1, 4, none⟩ (.slice a8 its.length c8)).setCell ⟨w.heap.size + 1 + 1, 0, none⟩ (.int .i64 0)).setCell ⟨w.heap.size + 1 + 1 + 1, 0, none⟩ (.int .i64 0)).cell? ⟨w.heap.size + 1 + 1 + 1, 0, none⟩ = some (.int .i64 0) := cell_of_row _ _ 0 _ _ _ (heap_set (i := 0) y3 (.int .i64 0))
      have hfar : ∀ k, w.heap.size + 3 < k → ((((((((wS.setCell ⟨w.heap.size + 1, 2, none⟩ (.int .i64 (s' : Int))).setCell ⟨w.heap.size + 1, 0, none⟩ (.string nm)).setCell ⟨w.heap.size + 1, 1, none⟩ (.int .i64 (ps.length : Int))).setCell ⟨w.heap.size + 1, 2, none⟩ (.int .i64 (s' : Int))).setCell ⟨w.heap.size + 1, 3, none⟩ (.int .i64 pr)).setCell ⟨w.heap.size + 1, 4, none⟩ (.slice a8 its.length c8)).setCell ⟨w.heap.size + 1 + 1, 0, none⟩ (.int .i64 0)).setCell ⟨w.heap.size + 1 + 1 + 1, 0, none⟩ (.int .i64 0)).heap[k]? = wS.heap[k]? := fun k hk => (heap_set_far (by omega)).trans ((heap_set_far (by omega)).trans ((heap_set_far (by omega)).trans ((heap_set_far (by omega)).trans ((heap_set_far (by omega)).trans ((heap_set_far (by omega)).trans ((heap_set_far (by omega)).trans ((heap_set_far (by omega)).trans (rfl))))))))
      have hb : Below w.heap.size w ((((((((wS.setCell ⟨w.heap.size + 1, 2, none⟩ (.int .i64 (s' : Int))).setCell ⟨w.heap.size + 1, 0, none⟩ (.string nm)).setCell ⟨w.heap.size + 1, 1, none⟩ (.int .i64 (ps.length : Int))).setCell ⟨w.heap.size + 1, 2, none⟩ (.int .i64 (s' : Int))).setCell ⟨w.heap.size + 1, 3, none⟩ (.int .i64 pr)).setCell ⟨w.heap.size + 1, 4, none⟩ (.slice a8 its.length c8)).setCell ⟨w.heap.size + 1 + 1, 0, none⟩ (.int .i64 0)).setCell ⟨w.heap.size + 1 + 1 + 1, 0, none⟩ (.int .i64 0)) := ((((((((BS.out).setCell (by show _ ≤ w.heap.size + 1; omega) _).setCell (by show _ ≤ w.heap.size + 1; omega) _).setCell (by show _ ≤ w.heap.size + 1; omega) _).setCell (by show _ ≤ w.heap.size + 1; omega) _).setCell (by show _ ≤ w.heap.size + 1; omega) _).setCell (by show _ ≤ w.heap.size + 1; omega) _).setCell (by show _ ≤ w.heap.size + 1 + 1; omega) _).setCell (by show _ ≤ w.heap.size + 1 + 1 + 1; omega) _
      generalize ((((((((wS.setCell ⟨w.heap.size + 1, 2, none⟩ (.int .i64 (s' : Int))).setCell ⟨w.heap.size + 1, 0, none⟩ (.string nm)).setCell ⟨w.heap.size + 1, 1, none⟩ (.int .i64 (ps.length : Int))).setCell ⟨w.heap.size + 1, 2, none⟩ (.int .i64 (s' : Int))).setCell ⟨w.heap.size + 1, 3, none⟩ (.int .i64 pr)).setCell ⟨w.heap.size + 1, 4, none⟩ (.slice a8 its.length c8)).setCell ⟨w.heap.size + 1 + 1, 0, none⟩ (.int .i64 0)).setCell ⟨w.heap.size + 1 + 1 + 1, 0, none⟩ (.int .i64 0)) = wF at *
      have hiF := (IS.out.keep (w' := wF) fun k hk hx _ => hfar k hx).weak (y := fun b => w.heap.size ≤ b) (fun b hb => by omega)
      refine door_yes _ (w.heap.size + 1) _ _ _ (results_three Try.results4 _ _ ⟨w.heap.size + 1, 0, none⟩ ⟨w.heap.size + 1 + 1, 0, none⟩ ⟨w.heap.size + 1 + 1 + 1, 0, none⟩ _ _ _ rfl rfl rfl (run_loadVar_row _ _ 35 _ _ (0, 0) _ x1 Try.underlying35 rfl (by kernel_rfl)) (load_int _ _ _ x2) (load_errno _ _ _ x3)) ?_
      rw [HZ.out]
      exact ⟨⟨_, rfl, hiF⟩, hb⟩
end Go.Proofs.Ytpfgidhchjcomaa
