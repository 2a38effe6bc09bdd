/- The program's nodes of the document's. Rows of items in memory. The document's items of the program's; a method's. A method's items, and whether two are the same. Two that are the same are told to be the same. -/
import Derived.Test.YtpfgidhchjcomaaMeRows
namespace Go.Proofs.Ytpfgidhchjcomaa
open Go.RowKit
set_option linter.unusedVariables false
set_option maxRecDepth 100000 in
set_option maxHeartbeats 8000000 in
theorem nodes_step (x : Nat → Prop) (d : Nat) (v : Value) (l : List Nd) (w : World) (h : NodesX x (d + 1) w v l) (hl : l.length ≤ 200) (hnm : ∀ n, n ∈ l → n.names.length ≤ 9)
    (H : ∀ n kv' W, n ∈ l → NodesX x d W kv' n.kids → Calls Try.prog 15 #[kv'] W fun e w' => ∃ v', e = .returned v' ∧ NodesX (fun b => W.heap.size ≤ b) d w' v' n.kids ∧ Below W.heap.size W w') :
    Calls Try.prog 15 #[v] w fun e w' => ∃ v', e = .returned v' ∧ NodesX (fun b => w.heap.size ≤ b) (d + 1) w' v' l ∧ Below w.heap.size w w' := by
  obtain ⟨iS, hiS, sz0, sz1, sz2⟩ := info_parts strInfo
  obtain ⟨iN, hiN, nz0, nz1, nz2⟩ := info_parts ndInfo
  obtain ⟨va, c, rfl, h1, h2, -⟩ := h.shape
  have HS := Lib.hid h
  have HH := Lib.hid H
  have HNM := Lib.hid hnm
  clear h H hnm
  go_enter Try.func15, Try.ntmps15
  go_wp2_with fail
  go_loopg [3, 5, 8] l.length (fun gg s3 s5 s8 wr => ∃ (i : Nat) (cs : List Value), gg = l.length - i ∧ i ≤ l.length ∧ s8 = .int .i64 (i : Int) ∧ wr.ownsRow w.heap.size 30 6 s3 i cs ∧ NdCs (fun b => w.heap.size ≤ b) d wr s3 (l.take i) cs ∧ Below w.heap.size w wr)
  case atStart => exact ⟨0, [], rfl, by omega, rfl, World.ownsRow_nil _ _ _ _, NdCs.nil _ _ _ _, Below.refl _ _⟩
  case round =>
    obtain ⟨i, cs, hg, hi, rfl, hown, hnc, hb⟩ := hrel
    have HGG := Lib.hid hg
    have HB := Lib.hid hb
    have HOW := Lib.hid hown
    have HNC := Lib.hid hnc
    have HSI := Lib.hid (HS.out.later hb)
    have hwr := hb.size
    clear hg hb hown hnc
    by_cases hlt' : i < l.length
    · have hl' := List.getElem?_eq_getElem hlt'
      obtain ⟨b, o, kv, nv, rfl, c0, c1, c2, c3, c4, c5, hk, hs, ho⟩ := HSI.out.at i _ hl'
      obtain ⟨ka, kc, rfl, -⟩ := id hk.shape
      obtain ⟨na, nc, rfl, -⟩ := id hs
      have HT := Lib.hid (show l.take (i + 1) = l.take i ++ [l[i]] by rw [List.take_add_one, hl']; rfl)
      have hq9 := HNM.out _ (List.getElem_mem hlt')
      have HREC := Lib.hid (fun kv' W (h : NodesX x d W kv' l[i].kids) => HH.out l[i] kv' W (List.getElem_mem hlt') h)
      have HKD := Lib.hid hk
      have HND := Lib.hid hs
      have HNK := Lib.hid ho
      clear hl' hk hs ho
      generalize l[i] = s at *
      go_upto_region 5 with fail
      have hwb : Below wr.heap.size wr (wr.alloc (.cells #[.int .i64 s.kind, .string s.name, .int .i64 s.num, .slice ka s.kids.length kc, .slice na s.names.length nc, .int .i64 s.at_] 43)) := (Below.refl _ _).alloc (Nat.le_refl _) _
      have hbk := heap_alloc_new wr (.cells #[.int .i64 s.kind, .string s.name, .int .i64 s.num, .slice ka s.kids.length kc, .slice na s.names.length nc, .int .i64 s.at_] 43)
      have hsz : (wr.alloc (.cells #[.int .i64 s.kind, .string s.name, .int .i64 s.num, .slice ka s.kids.length kc, .slice na s.names.length nc, .int .i64 s.at_] 43)).heap.size = wr.heap.size + 1 := by simp
      generalize (wr.alloc (.cells #[.int .i64 s.kind, .string s.name, .int .i64 s.num, .slice ka s.kids.length kc, .slice na s.names.length nc, .int .i64 s.at_] 43)) = wb at *
      have HCB := Lib.hid (show ∀ W, Below wb.heap.size wb W → W.cell? ⟨wr.heap.size, 0, none⟩ = some (.int .i64 s.kind) ∧ W.cell? ⟨wr.heap.size, 1, none⟩ = some (.string s.name) ∧ W.cell? ⟨wr.heap.size, 2, none⟩ = some (.int .i64 s.num) ∧ W.cell? ⟨wr.heap.size, 3, none⟩ = some (.slice ka s.kids.length kc) ∧ W.cell? ⟨wr.heap.size, 4, none⟩ = some (.slice na s.names.length nc) ∧ W.cell? ⟨wr.heap.size, 5, none⟩ = some (.int .i64 s.at_) from fun W hW => by
        have a1 := (hW.block wr.heap.size (by omega)).trans hbk
        exact ⟨cell_of_row W _ _ _ _ _ a1, cell_of_row W _ _ _ _ _ a1, cell_of_row W _ _ _ _ _ a1, cell_of_row W _ _ _ _ _ a1, cell_of_row W _ _ _ _ _ a1, cell_of_row W _ _ _ _ _ a1⟩)
      have HRC := Lib.hid (show ∀ W, Below wb.heap.size wb W → Calls Try.prog 15 #[.slice ka s.kids.length kc] W fun e w' => ∃ v', e = .returned v' ∧ NodesX (fun b => wr.heap.size ≤ b) d w' v' s.kids ∧ Below W.heap.size W w' from fun W hW => (HREC.out _ W ((HKD.out.later hwb).later hW)).mono fun e w' ⟨v', h1, h2, h3⟩ => ⟨v', h1, h2.weak fun b hb => Nat.le_trans (by have := hW.size; omega) hb, h3⟩)
      have HNR := Lib.hid (show ∀ W, Below wb.heap.size wb W → StrsX x W (.slice na s.names.length nc) s.names from fun W hW => (HND.out.later hwb).later hW)
      have HOR := Lib.hid (show ∀ W, Below wb.heap.size wb W → W.ownsRow w.heap.size 30 6 u3 i cs from fun W hW => own_grown HOW.out fun g hg => by
        have hlt := (HOW.out.lt g hg).2
        exact (hW.block g (by omega)).trans (hwb.block g hlt))
      have HPU := Lib.hid (show ∀ WA wF kv nv gg n cap, Below wb.heap.size wb WA → NodesX (fun b => wr.heap.size ≤ b) d WA kv s.kids → StrsX (fun b => wr.heap.size ≤ b) WA nv s.names → WA.grownBy wF u3.ownBlock → (u3.ownBlock = some gg ∨ gg = WA.heap.size) → NdCs (fun b => w.heap.size ≤ b) d wF (.slice (some ⟨gg, 0, none⟩) n cap) (l.take i ++ [s]) (cs ++ ndC s kv nv) ∧ Below w.heap.size w wF ∧ wF.cell? ⟨wr.heap.size, 0, none⟩ = some (.int .i64 s.kind) ∧ wF.cell? ⟨wr.heap.size, 1, none⟩ = some (.string s.name) ∧ wF.cell? ⟨wr.heap.size, 2, none⟩ = some (.int .i64 s.num) ∧ wF.cell? ⟨wr.heap.size, 3, none⟩ = some (.slice ka s.kids.length kc) ∧ wF.cell? ⟨wr.heap.size, 4, none⟩ = some (.slice na s.names.length nc) ∧ wF.cell? ⟨wr.heap.size, 5, none⟩ = some (.int .i64 s.at_) from fun WA wF kv nv gg n cap hW h1 h2 h3 h4 =>
        ⟨nd_push HNC.out (fun g hg => (HOW.out.lt g hg).2) (hwb.trans (hW.mono (by omega))) h1 h2 HNK.out (fun b hb => Nat.le_trans hwr hb) h3 h4, (HB.out.trans ((hwb.trans (hW.mono (by omega))).mono hwr)).grown h3 (by have := hW.size; omega) fun g hg => (HOW.out.lt g hg).1, by
          obtain ⟨a0, a1, a2, a3, a4, a5⟩ := HCB.out WA hW
          have hne : some wr.heap.size ≠ u3.ownBlock := fun e => by have := (HOW.out.lt _ e.symm).2; omega
          exact ⟨h3.cell a0 hne, h3.cell a1 hne, h3.cell a2 hne, h3.cell a3 hne, h3.cell a4 hne, h3.cell a5 hne⟩⟩)
      have k0 : Below wb.heap.size wb wb := Below.refl _ _
      have hi200 : i ≤ 200 := by omega
      obtain ⟨p0, p1, p2, p3, p4, p5⟩ := HCB.out wb.drew (Below.refl _ _).drew
      clear hwb hbk
      go_region_held3 (fun w' => w'.cell? ⟨wr.heap.size, 0, none⟩ = some (.int .i64 s.kind) ∧ w'.cell? ⟨wr.heap.size, 1, none⟩ = some (.string s.name) ∧ w'.cell? ⟨wr.heap.size, 2, none⟩ = some (.int .i64 s.num) ∧ w'.cell? ⟨wr.heap.size, 3, none⟩ = some (.slice ka s.kids.length kc) ∧ w'.cell? ⟨wr.heap.size, 4, none⟩ = some (.slice na s.names.length nc) ∧ w'.cell? ⟨wr.heap.size, 5, none⟩ = some (.int .i64 s.at_))
        (first | exact ⟨p0, p1, p2, p3, p4, p5⟩ | exact HPF.out.2.2 | (refine HCB.out _ ?_; repeat (first | with_reducible exact Below.refl _ _ | ((with_reducible refine Below.setCell ?_ ?_ _); rotate_left; focus (first | (simp; done) | (simp; omega) | omega)) | ((with_reducible refine Below.alloc ?_ ?_ _); rotate_left; focus (first | (simp; done) | (simp; omega) | omega)) | (with_reducible refine Below.drew ?_) | ((with_reducible refine Below.trans ?_ (Below.mono hbN ?_)); rotate_left; focus (first | (simp; done) | (simp; omega) | omega)) | ((with_reducible refine Below.trans ?_ (Below.mono hbS ?_)); rotate_left; focus (first | (simp; done) | (simp; omega) | omega)) | ((with_reducible refine Below.trans ?_ (Below.mono hbF ?_)); rotate_left; focus (first | (simp; done) | (simp; omega) | omega)) | ((with_reducible refine Below.trans ?_ (Below.mono k0 ?_)); rotate_left; focus (first | (simp; done) | (simp; omega) | omega)))))
        (first
          | (refine step_append_lies _ rfl (.tmp 12) (.tmp 29) 28 rfl w.heap.size 30 iN _ 6 88 Try.underlying28 hiN nz0 nz1 nz2 rfl (by omega) u3 i cs (by rfl) (HOR.out _ ?_) ⟨_, 0, none⟩ 1 1 (ndC s (.slice aN s.kids.length cN) (.slice aS s.names.length cS)) (by rfl) rfl (World.news_of_block (cs := #[.int .i64 s.kind, .string s.name, .int .i64 s.num, .slice aN s.kids.length cN, .slice aS s.names.length cS, .int .i64 s.at_]) (heap_alloc_new _ _)) ?_ (by omega) (by unfold maxLen; omega) (by omega) ?_ _ rfl ?_
             · repeat (first | with_reducible exact Below.refl _ _ | ((with_reducible refine Below.setCell ?_ ?_ _); rotate_left; focus (first | (simp; done) | (simp; omega) | omega)) | ((with_reducible refine Below.alloc ?_ ?_ _); rotate_left; focus (first | (simp; done) | (simp; omega) | omega)) | (with_reducible refine Below.drew ?_) | ((with_reducible refine Below.trans ?_ (Below.mono hbN ?_)); rotate_left; focus (first | (simp; done) | (simp; omega) | omega)) | ((with_reducible refine Below.trans ?_ (Below.mono hbS ?_)); rotate_left; focus (first | (simp; done) | (simp; omega) | omega)) | ((with_reducible refine Below.trans ?_ (Below.mono k0 ?_)); rotate_left; focus (first | (simp; done) | (simp; omega) | omega)))
             · simp [ndC, Value.oneCell']
             · first | omega | (simp; omega)
             intro gg cap6 wF hownF hgrF hatF hltF
             have HPF := Lib.hid (HPU.out _ wF (.slice aN s.kids.length cN) (.slice aS s.names.length cS) gg (i + 1) cap6 (by repeat (first | with_reducible exact Below.refl _ _ | ((with_reducible refine Below.setCell ?_ ?_ _); rotate_left; focus (first | (simp; done) | (simp; omega) | omega)) | ((with_reducible refine Below.alloc ?_ ?_ _); rotate_left; focus (first | (simp; done) | (simp; omega) | omega)) | (with_reducible refine Below.drew ?_) | ((with_reducible refine Below.trans ?_ (Below.mono hbN ?_)); rotate_left; focus (first | (simp; done) | (simp; omega) | omega)) | ((with_reducible refine Below.trans ?_ (Below.mono hbS ?_)); rotate_left; focus (first | (simp; done) | (simp; omega) | omega)) | ((with_reducible refine Below.trans ?_ (Below.mono k0 ?_)); rotate_left; focus (first | (simp; done) | (simp; omega) | omega)))) (hN.later (by repeat (first | with_reducible exact Below.refl _ _ | ((with_reducible refine Below.setCell ?_ ?_ _); rotate_left; focus (first | (simp; done) | (simp; omega) | omega)) | ((with_reducible refine Below.alloc ?_ ?_ _); rotate_left; focus (first | (simp; done) | (simp; omega) | omega)) | (with_reducible refine Below.drew ?_) | ((with_reducible refine Below.trans ?_ (Below.mono hbS ?_)); rotate_left; focus (first | (simp; done) | (simp; omega) | omega))))) (hS.later (by repeat (first | with_reducible exact Below.refl _ _ | ((with_reducible refine Below.setCell ?_ ?_ _); rotate_left; focus (first | (simp; done) | (simp; omega) | omega)) | ((with_reducible refine Below.alloc ?_ ?_ _); rotate_left; focus (first | (simp; done) | (simp; omega) | omega)) | (with_reducible refine Below.drew ?_) | ((with_reducible refine Below.trans ?_ (Below.mono hbN ?_)); rotate_left; focus (first | (simp; done) | (simp; omega) | omega))))) hgrF hatF))
          | (go_at_call 15
             refine (HRC.out _ ?_).mono ?_
             · repeat (first | with_reducible exact Below.refl _ _ | ((with_reducible refine Below.setCell ?_ ?_ _); rotate_left; focus (first | (simp; done) | (simp; omega) | omega)) | ((with_reducible refine Below.alloc ?_ ?_ _); rotate_left; focus (first | (simp; done) | (simp; omega) | omega)) | (with_reducible refine Below.drew ?_) | ((with_reducible refine Below.trans ?_ (Below.mono hbS ?_)); rotate_left; focus (first | (simp; done) | (simp; omega) | omega)) | ((with_reducible refine Below.trans ?_ (Below.mono k0 ?_)); rotate_left; focus (first | (simp; done) | (simp; omega) | omega)))
             rintro e wC ⟨vN, rfl, hN, hbN⟩
             obtain ⟨aN, cN, rfl, -⟩ := id hN.shape
             have zN := hbN.size
             (try simp at zN))
          | (refine step_append_copy0 _ rfl (.tmp 22) (.tmp 24) 22 rfl 9 iS _ 16 Try.underlying22 hiS sz0 sz1 sz2 rfl _ (by rfl) (.slice na s.names.length nc) s.names (by rfl) (HNR.out _ ?_) (by unfold maxLen; omega) (by omega) wr.heap.size ?_ ?_
             · repeat (first | with_reducible exact Below.refl _ _ | ((with_reducible refine Below.setCell ?_ ?_ _); rotate_left; focus (first | (simp; done) | (simp; omega) | omega)) | ((with_reducible refine Below.alloc ?_ ?_ _); rotate_left; focus (first | (simp; done) | (simp; omega) | omega)) | (with_reducible refine Below.drew ?_) | ((with_reducible refine Below.trans ?_ (Below.mono hbN ?_)); rotate_left; focus (first | (simp; done) | (simp; omega) | omega)) | ((with_reducible refine Below.trans ?_ (Below.mono k0 ?_)); rotate_left; focus (first | (simp; done) | (simp; omega) | omega)))
             · first | omega | (simp; omega)
             intro aS cS wS hS hbS
             have zS := hbS.size
             (try simp at zS)))
      all_goals
        have HOF := Lib.hid hownF
        clear p0 p1 p2 p3 p4 p5 hN hS hbN hbS hownF hgrF hatF k0
        go_wp2_with fail
        go_roundg (l.length - (i + 1))
        case measure => rw [HGG.out]; omega
        case rel => exact ⟨i + 1, _, rfl, by omega, by go_num, HOF.out, by rw [HT.out]; exact HPF.out.1, HPF.out.2.1⟩
    · have : i = l.length := by omega
      subst this
      have HT : Hid (l.take l.length = l) := Lib.hid List.take_length
      have HF := Lib.hid (show NodesX (fun b => w.heap.size ≤ b) (d + 1) wr u3 l by
        have h1 := HNC.out
        rw [HT.out] at h1
        exact h1.nodes HOW.out (fun b h => h) fun g hg => (HOW.out.lt g hg).1)
      go_wp2_with fail
      go_ret
      exact ⟨_, rfl, HF.out, HB.out⟩
theorem nodesM_any : ∀ (d : Nat) (x : Nat → Prop) (v : Value) (l : List Nd) (w : World), NodesX x d w v l → smT d l →
    Calls Try.prog 15 #[v] w fun e w' => ∃ v', e = .returned v' ∧ NodesX (fun b => w.heap.size ≤ b) d w' v' l ∧ Below w.heap.size w w'
  | 0, x, v, l, w, h, hs => by
      obtain rfl := nodes0 h
      refine (nodes_step x 0 v [] w h.succ (by simp) (fun n hn => by cases hn) fun n kv' W hn => by cases hn).mono ?_
      rintro e w' ⟨v', h1, h2, h3⟩
      obtain ⟨a, c, rfl, -, q2, q3, -⟩ := h2
      exact ⟨_, h1, ⟨rfl, a, c, rfl, q2, q3⟩, h3⟩
  | d + 1, x, v, l, w, h, hs => nodes_step x d v l w h hs.1 (fun n hn => (hs.2 n hn).1) fun n kv' W hn hk => nodesM_any d x kv' n.kids W hk (hs.2 n hn).2.2
end Go.Proofs.Ytpfgidhchjcomaa
namespace Go.Proofs.Ytpfgidhchjcomaa
open Go.RowKit
set_option linter.unusedVariables false
/-- a part of a method whose names are resolved -/
inductive It where
  | mk (kind : Int) (name : ByteArray) (num : Int) (slot : Int) (width : Int) (kids : List It)
namespace It
def kind : It → Int | mk k _ _ _ _ _ => k
def name : It → ByteArray | mk _ s _ _ _ _ => s
def num : It → Int | mk _ _ n _ _ _ => n
def slot : It → Int | mk _ _ _ p _ _ => p
def width : It → Int | mk _ _ _ _ q _ => q
def kids : It → List It | mk _ _ _ _ _ l => l
end It
def itC (x : It) (kv : Value) : List Value := [.int .i64 x.kind, .string x.name, .int .i64 x.num, .int .i64 x.slot, .int .i64 x.width, kv]
def ItOk (x : It) : Prop := True
def TyAt (T : TypeId) (w : World) (b : Nat) : Prop := ∃ cs fr, w.heap[b]? = some (.cells cs T fr)
theorem TyAt.lt {T : TypeId} {w : World} {b : Nat} (h : TyAt T w b) : b < w.heap.size := by
  obtain ⟨cs, fr, h⟩ := h
  exact (Array.getElem?_eq_some_iff.1 h).1
theorem TyAt.of {T : TypeId} {w w' : World} {b : Nat} (h : TyAt T w b) (hb : w'.heap[b]? = w.heap[b]?) : TyAt T w' b := by
  obtain ⟨cs, fr, h⟩ := h
  exact ⟨cs, fr, hb.trans h⟩
/-- A SLICE THAT READS AS THESE ITEMS, of at most d within one another, in blocks of type T that x allows -/
def ItsX (T : TypeId) (x : Nat → Prop) : Nat → World → Value → List It → Prop
  | 0, w, v, l => l = [] ∧ ∃ a cap, v = .slice a 0 cap ∧ cap ≤ maxLen ∧ (a = none → cap = 0)
  | d + 1, w, v, l => ∃ a cap, v = .slice a l.length cap ∧ l.length ≤ cap ∧ cap ≤ maxLen ∧ (a = none → cap = 0) ∧
      ∀ i n, l[i]? = some n → ∃ b o kv, a = some ⟨b, o, none⟩ ∧ x b ∧ TyAt T w b ∧ (∀ j, j < 6 → w.cell? ⟨b, o + i * 6 + j, none⟩ = (itC n kv)[j]?) ∧ ItsX T x d w kv n.kids ∧ ItOk n
theorem ItsX.shape {T : TypeId} {x : Nat → Prop} {d : Nat} {w : World} {v : Value} {l : List It} (h : ItsX T x d w v l) : ∃ a cap, v = .slice a l.length cap ∧ l.length ≤ cap ∧ cap ≤ maxLen ∧ (a = none → cap = 0) := by
  cases d with
  | zero =>
    obtain ⟨rfl, a, cap, hv, h1, h2⟩ := h
    exact ⟨a, cap, hv, Nat.zero_le _, h1, h2⟩
  | succ d =>
    obtain ⟨a, cap, hv, h1, h2, h3, -⟩ := h
    exact ⟨a, cap, hv, h1, h2, h3⟩
theorem ItsX.keep {T : TypeId} {x : Nat → Prop} {w w' : World} (hb : ∀ k, k < w.heap.size → x k → TyAt T w k → w'.heap[k]? = w.heap[k]?) : ∀ {d : Nat} {v : Value} {l : List It}, ItsX T x d w v l → ItsX T x d w' v l
  | 0, v, l, h => h
  | d + 1, v, l, ⟨a, cap, hv, h1, h2, h3, h4⟩ => ⟨a, cap, hv, h1, h2, h3, fun i n hn => by
    obtain ⟨b, o, kv, ha, hx, ht, hc, hk, ho⟩ := h4 i n hn
    have e := hb b ht.lt hx ht
    exact ⟨b, o, kv, ha, hx, ht.of e, fun j hj => (World.cell?_of_block (a := ⟨b, o + i * 6 + j, none⟩) e).trans (hc j hj), ItsX.keep hb hk, ho⟩⟩
theorem ItsX.turn {T : TypeId} {x y : Nat → Prop} {w : World} (hy : ∀ b, b < w.heap.size → x b → TyAt T w b → y b) : ∀ {d : Nat} {v : Value} {l : List It}, ItsX T x d w v l → ItsX T y d w v l
  | 0, v, l, h => h
  | d + 1, v, l, ⟨a, cap, hv, h1, h2, h3, h4⟩ => ⟨a, cap, hv, h1, h2, h3, fun i n hn => by
    obtain ⟨b, o, kv, ha, hx, ht, hc, hk, ho⟩ := h4 i n hn
    exact ⟨b, o, kv, ha, hy b ht.lt hx ht, ht, hc, ItsX.turn hy hk, ho⟩⟩
theorem ItsX.weak {T : TypeId} {x y : Nat → Prop} {w : World} {d : Nat} {v : Value} {l : List It} (h : ItsX T x d w v l) (hy : ∀ b, x b → y b) : ItsX T y d w v l := h.turn fun b _ hb _ => hy b hb
theorem ItsX.later {T : TypeId} {x : Nat → Prop} {w w' : World} {d : Nat} {v : Value} {l : List It} (h : ItsX T x d w v l) (hb : Below w.heap.size w w') : ItsX T x d w' v l := h.keep fun k hk _ _ => hb.block k hk
theorem ItsX.succ {T : TypeId} {x : Nat → Prop} {w : World} : ∀ {d : Nat} {v : Value} {l : List It}, ItsX T x d w v l → ItsX T x (d + 1) w v l
  | 0, v, l, ⟨hl, a, cap, hv, h1, h2⟩ => by subst hl; exact ⟨a, cap, hv, Nat.zero_le _, h1, h2, fun i n h => by simp at h⟩
  | d + 1, v, l, ⟨a, cap, hv, h1, h2, h3, h4⟩ => ⟨a, cap, hv, h1, h2, h3, fun i n hn => by
    obtain ⟨b, o, kv, ha, hx, ht, hc, hk, ho⟩ := h4 i n hn
    exact ⟨b, o, kv, ha, hx, ht, hc, hk.succ, ho⟩⟩
theorem its_nil (T : TypeId) (x : Nat → Prop) (d : Nat) (w : World) : ItsX T x d w (.slice none 0 0) [] := by
  cases d with
  | zero => exact ⟨rfl, none, 0, rfl, by unfold maxLen; omega, fun _ => rfl⟩
  | succ d => exact ⟨none, 0, rfl, Nat.le_refl _, by unfold maxLen; omega, fun _ => rfl, fun i n h => by simp at h⟩
theorem ItsX.at {T : TypeId} {x : Nat → Prop} {d : Nat} {w : World} {a : Option Addr} {c : Nat} {l : List It} (h : ItsX T x (d + 1) w (.slice a l.length c) l) (i : Nat) (n : It) (hi : l[i]? = some n) :
    ∃ b o kv, a = some ⟨b, o, none⟩ ∧ w.cell? ⟨b, o + i * 6, none⟩ = some (.int .i64 n.kind) ∧ w.cell? ⟨b, o + i * 6 + 1, none⟩ = some (.string n.name) ∧ w.cell? ⟨b, o + i * 6 + 2, none⟩ = some (.int .i64 n.num) ∧ w.cell? ⟨b, o + i * 6 + 3, none⟩ = some (.int .i64 n.slot) ∧ w.cell? ⟨b, o + i * 6 + 4, none⟩ = some (.int .i64 n.width) ∧ w.cell? ⟨b, o + i * 6 + 5, none⟩ = some kv ∧ ItsX T x d w kv n.kids ∧ ItOk n := by
  obtain ⟨a', c', hv, -, -, -, h4⟩ := h
  injection hv with e1 e2 e3
  subst e1
  obtain ⟨b, o, kv, ha, -, -, hc, hk, ho⟩ := h4 i n hi
  exact ⟨b, o, kv, ha, hc 0 (by omega), hc 1 (by omega), hc 2 (by omega), hc 3 (by omega), hc 4 (by omega), hc 5 (by omega), hk, ho⟩
/-- a row of the call's own that reads as these items; their own rows lie in blocks of P, and not in this one -/
def ItCs (T : TypeId) (P : Nat → Prop) (d : Nat) (w : World) (v : Value) (l : List It) (cs : List Value) : Prop :=
  cs.length = l.length * 6 ∧ ∀ i n, l[i]? = some n → ∃ kv, (∀ j, j < 6 → cs[i * 6 + j]? = (itC n kv)[j]?) ∧ ItsX T (fun b => P b ∧ some b ≠ v.ownBlock) d w kv n.kids ∧ ItOk n
theorem ItCs.nil (T : TypeId) (P : Nat → Prop) (d : Nat) (w : World) (v : Value) : ItCs T P d w v [] [] := ⟨rfl, fun i n h => by simp at h⟩
theorem ItCs.keep {T : TypeId} {P : Nat → Prop} {d : Nat} {w w' : World} {v : Value} {l : List It} {cs : List Value} (h : ItCs T P d w v l cs) (hb : ∀ k, k < w.heap.size → P k → some k ≠ v.ownBlock → TyAt T w k → w'.heap[k]? = w.heap[k]?) : ItCs T P d w' v l cs :=
  ⟨h.1, fun i n hn => by
    obtain ⟨kv, a, b, e⟩ := h.2 i n hn
    exact ⟨kv, a, b.keep fun k hk hp ht => hb k hk hp.1 hp.2 ht, e⟩⟩
theorem ItCs.push {T : TypeId} {P : Nat → Prop} {d : Nat} {w w' : World} {v v' : Value} {l : List It} {cs : List Value} (h : ItCs T P d w v l cs) {x : It} {kv : Value} (hk : ItsX T (fun b => P b ∧ some b ≠ v.ownBlock) d w kv x.kids) (ho : ItOk x)
    (hg : w.grownBy w' v.ownBlock) (hc : v'.ownBlock = v.ownBlock ∨ ∃ g, v'.ownBlock = some g ∧ w.heap.size ≤ g) : ItCs T P d w' v' (l ++ [x]) (cs ++ itC x kv) := by
  have hlen : (itC x kv).length = 6 := rfl
  obtain ⟨t1, t2⟩ := turn_push hg hc
  have tk : ∀ {d : Nat} {u : Value} {l : List It}, ItsX T (fun b => P b ∧ some b ≠ v.ownBlock) d w u l → ItsX T (fun b => P b ∧ some b ≠ v'.ownBlock) d w' u l := fun h => (show ItsX T (fun b => (P b ∧ some b ≠ v.ownBlock) ∧ some b ≠ v'.ownBlock) _ _ _ _ from h.turn (fun b hb hp _ => ⟨hp, t2 b hb hp.2⟩)).keep (fun k hk hp _ => t1 k hk hp.1.2) |>.weak fun b hp => ⟨hp.1.1, hp.2⟩
  refine ⟨by rw [List.length_append, List.length_append, h.1, hlen]; simp; omega, fun i n hn => ?_⟩
  by_cases hi : i < l.length
  · rw [List.getElem?_append_left hi] at hn
    obtain ⟨kv', a, b, e⟩ := h.2 i n hn
    exact ⟨kv', fun j hj => by rw [List.getElem?_append_left (by rw [h.1]; omega)]; exact a j hj, tk b, e⟩
  · have hil : i = l.length := by
      have := (List.getElem?_eq_some_iff.1 hn).1
      simp at this; omega
    subst hil
    simp at hn
    subst hn
    exact ⟨kv, fun j hj => by rw [List.getElem?_append_right (by rw [h.1]; omega), h.1]; congr 1; omega, tk hk, ho⟩
theorem ItCs.items {T : TypeId} {P Q : Nat → Prop} {d : Nat} {w : World} {base : Nat} {v : Value} {l : List It} {cs : List Value} (h : ItCs T P d w v l cs) (ho : w.ownsRow base T 6 v l.length cs) (hQ : ∀ b, P b → Q b) (hb : ∀ g, v.ownBlock = some g → Q g) : ItsX T Q (d + 1) w v l := by
  rcases ho.2 with ⟨rfl, h0⟩ | ⟨g, cap, cur, rfl, hB, hg, hn, hcm, hs, ht⟩
  · obtain rfl := List.length_eq_zero_iff.1 h0
    exact its_nil _ _ _ _
  · refine ⟨some ⟨g, 0, none⟩, cap, rfl, hn, hcm, by simp, fun i n hi => ?_⟩
    obtain ⟨kv, a, b, e⟩ := h.2 i n hi
    have hil := (List.getElem?_eq_some_iff.1 hi).1
    refine ⟨g, 0, kv, rfl, hb g rfl, ⟨_, _, hg⟩, fun j hj => ?_, b.weak fun k hk => hQ k hk.1, e⟩
    rw [cell_of_row w g _ _ _ _ hg, ← a j hj, ← ht, List.getElem?_take, if_pos (by omega)]
    simp
theorem it_push {T : TypeId} {P : Nat → Prop} {d : Nat} {wr WA wF : World} {v : Value} {L : List It} {cs : List Value} {x : It} {kv : Value} {gg n cap : Nat} (H0 : ItCs T P d wr v L cs) (hv : ∀ g, v.ownBlock = some g → g < wr.heap.size) (hb : ∀ k, k < wr.heap.size → P k → some k ≠ v.ownBlock → TyAt T wr k → WA.heap[k]? = wr.heap[k]?) (hsz : wr.heap.size ≤ WA.heap.size)
    (hk : ItsX T (fun b => wr.heap.size ≤ b) d WA kv x.kids) (ho : ItOk x) (hP : ∀ b, wr.heap.size ≤ b → P b)
    (hg : WA.grownBy wF v.ownBlock) (hat : v.ownBlock = some gg ∨ gg = WA.heap.size) : ItCs T P d wF (.slice (some ⟨gg, 0, none⟩) n cap) (L ++ [x]) (cs ++ itC x kv) := by
  have hne : ∀ b, wr.heap.size ≤ b → some b ≠ v.ownBlock := fun b hb e => by have := hv b e.symm; omega
  refine (H0.keep (w' := WA) hb).push (hk.weak fun b hb => ⟨hP b hb, hne b hb⟩) ho hg ?_
  rcases hat with h | h
  · exact Or.inl h.symm
  · exact Or.inr ⟨gg, rfl, by omega⟩
theorem heap_set {w : World} {g i : Nat} {cs : Array Value} {t : TypeId} {fr : Nat × Nat} (h : w.heap[g]? = some (.cells cs t fr)) (v : Value) : (w.setCell ⟨g, i, none⟩ v).heap[g]? = some (.cells (cs.setIfInBounds i v) t fr) := by
  rw [setCell_eq_setRow w g i cs t fr v h]
  exact setRow_heap w g _ _ t _ h
theorem heap_set_far {w : World} {g i k : Nat} {v : Value} (h : k ≠ g) : (w.setCell ⟨g, i, none⟩ v).heap[k]? = w.heap[k]? := Below.heap_setCell w ⟨g, i, none⟩ v k h
theorem heap_set5 {w : World} {g : Nat} {c0 c1 c2 c3 c4 : Value} {t : TypeId} {fr : Nat × Nat} (h : w.heap[g]? = some (.cells #[c0, c1, c2, c3, c4] t fr)) (v0 v1 v2 v3 v4 : Value) : (((((w.setCell ⟨g, 0, none⟩ v0).setCell ⟨g, 1, none⟩ v1).setCell ⟨g, 2, none⟩ v2).setCell ⟨g, 3, none⟩ v3).setCell ⟨g, 4, none⟩ v4).heap[g]? = some (.cells #[v0, v1, v2, v3, v4] t fr) :=
  heap_set (heap_set (heap_set (heap_set (heap_set h v0) v1) v2) v3) v4
theorem heap_set6 {w : World} {g : Nat} {c0 c1 c2 c3 c4 c5 : Value} {t : TypeId} {fr : Nat × Nat} (h : w.heap[g]? = some (.cells #[c0, c1, c2, c3, c4, c5] t fr)) (v0 v1 v2 v3 v4 v5 : Value) : ((((((w.setCell ⟨g, 0, none⟩ v0).setCell ⟨g, 1, none⟩ v1).setCell ⟨g, 2, none⟩ v2).setCell ⟨g, 3, none⟩ v3).setCell ⟨g, 4, none⟩ v4).setCell ⟨g, 5, none⟩ v5).heap[g]? = some (.cells #[v0, v1, v2, v3, v4, v5] t fr) :=
  heap_set (heap_set (heap_set (heap_set (heap_set (heap_set h v0) v1) v2) v3) v4) v5
theorem itInfo : (Try.prog.info? 73).map (fun i => (i.zero, i.size, i.bytes)) = some (some (.agg #[.int .i64 0, .string ⟨#[]⟩, .int .i64 0, .int .i64 0, .int .i64 0, .slice none 0 0]), 6, 72) := by kernel_rfl
theorem ritInfo : (Try.prog.info? 76).map (fun i => (i.zero, i.size, i.bytes)) = some (some (.agg #[.int .i64 0, .string ⟨#[]⟩, .int .i64 0, .int .i64 0, .int .i64 0, .slice none 0 0]), 6, 72) := by kernel_rfl
/-- few enough items -/
def smI : Nat → List It → Prop
  | 0, _ => True
  | d + 1, l => l.length ≤ 300 ∧ ∀ n, n ∈ l → smI d n.kids
end Go.Proofs.Ytpfgidhchjcomaa
namespace Go.Proofs.Ytpfgidhchjcomaa
open Go.RowKit
set_option linter.unusedVariables false
set_option maxRecDepth 100000 in
set_option maxHeartbeats 8000000 in
theorem items_step (x : Nat → Prop) (d : Nat) (v : Value) (l : List It) (w : World) (h : ItsX 73 x (d + 1) w v l) (hl : l.length ≤ 300)
    (H : ∀ n kv' W, n ∈ l → ItsX 73 x d W kv' n.kids → Calls Try.prog 17 #[kv'] W fun e w' => ∃ v', e = .returned v' ∧ ItsX 76 (fun b => W.heap.size ≤ b) d w' v' n.kids ∧ Below W.heap.size W w') :
    Calls Try.prog 17 #[v] w fun e w' => ∃ v', e = .returned v' ∧ ItsX 76 (fun b => w.heap.size ≤ b) (d + 1) w' v' l ∧ Below w.heap.size w w' := by
  obtain ⟨iN, hiN, nz0, nz1, nz2⟩ := info_parts ritInfo
  obtain ⟨va, c, rfl, h1, h2, -⟩ := h.shape
  have HS := Lib.hid h
  have HH := Lib.hid H
  clear h H
  go_enter Try.func17, Try.ntmps17
  go_wp2_with fail
  go_loopg [3, 5, 8] l.length (fun gg s3 s5 s8 wr => ∃ (i : Nat) (cs : List Value), gg = l.length - i ∧ i ≤ l.length ∧ s8 = .int .i64 (i : Int) ∧ wr.ownsRow w.heap.size 76 6 s3 i cs ∧ ItCs 76 (fun b => w.heap.size ≤ b) d wr s3 (l.take i) cs ∧ Below w.heap.size w wr)
  case atStart => exact ⟨0, [], rfl, by omega, rfl, World.ownsRow_nil _ _ _ _, ItCs.nil _ _ _ _ _, Below.refl _ _⟩
  case round =>
    obtain ⟨i, cs, hg, hi, rfl, hown, hnc, hb⟩ := hrel
    have HGG := Lib.hid hg
    have HB := Lib.hid hb
    have HOW := Lib.hid hown
    have HNC := Lib.hid hnc
    have HSI := Lib.hid (HS.out.later hb)
    have hwr := hb.size
    clear hg hb hown hnc
    by_cases hlt' : i < l.length
    · have hl' := List.getElem?_eq_getElem hlt'
      obtain ⟨b, o, kv, rfl, c0, c1, c2, c3, c4, c5, hk, ho⟩ := HSI.out.at i _ hl'
      obtain ⟨ka, kc, rfl, -⟩ := id hk.shape
      have HT := Lib.hid (show l.take (i + 1) = l.take i ++ [l[i]] by rw [List.take_add_one, hl']; rfl)
      have HREC := Lib.hid (fun kv' W (h : ItsX 73 x d W kv' l[i].kids) => HH.out l[i] kv' W (List.getElem_mem hlt') h)
      have HKD := Lib.hid hk
      have HNK := Lib.hid ho
      clear hl' hk ho
      generalize l[i] = s at *
      go_upto_region 5 with fail
      have hwb : Below wr.heap.size wr (wr.alloc (.cells #[.int .i64 s.kind, .string s.name, .int .i64 s.num, .int .i64 s.slot, .int .i64 s.width, .slice ka s.kids.length kc] 73)) := (Below.refl _ _).alloc (Nat.le_refl _) _
      have hbk := heap_alloc_new wr (.cells #[.int .i64 s.kind, .string s.name, .int .i64 s.num, .int .i64 s.slot, .int .i64 s.width, .slice ka s.kids.length kc] 73)
      have hsz : (wr.alloc (.cells #[.int .i64 s.kind, .string s.name, .int .i64 s.num, .int .i64 s.slot, .int .i64 s.width, .slice ka s.kids.length kc] 73)).heap.size = wr.heap.size + 1 := by simp
      generalize (wr.alloc (.cells #[.int .i64 s.kind, .string s.name, .int .i64 s.num, .int .i64 s.slot, .int .i64 s.width, .slice ka s.kids.length kc] 73)) = wb at *
      have HCB := Lib.hid (show ∀ W, Below wb.heap.size wb W → W.cell? ⟨wr.heap.size, 0, none⟩ = some (.int .i64 s.kind) ∧ W.cell? ⟨wr.heap.size, 1, none⟩ = some (.string s.name) ∧ W.cell? ⟨wr.heap.size, 2, none⟩ = some (.int .i64 s.num) ∧ W.cell? ⟨wr.heap.size, 3, none⟩ = some (.int .i64 s.slot) ∧ W.cell? ⟨wr.heap.size, 4, none⟩ = some (.int .i64 s.width) ∧ W.cell? ⟨wr.heap.size, 5, none⟩ = some (.slice ka s.kids.length kc) from fun W hW => by
        have a1 := (hW.block wr.heap.size (by omega)).trans hbk
        exact ⟨cell_of_row W _ _ _ _ _ a1, cell_of_row W _ _ _ _ _ a1, cell_of_row W _ _ _ _ _ a1, cell_of_row W _ _ _ _ _ a1, cell_of_row W _ _ _ _ _ a1, cell_of_row W _ _ _ _ _ a1⟩)
      have HRC := Lib.hid (show ∀ W, Below wb.heap.size wb W → Calls Try.prog 17 #[.slice ka s.kids.length kc] W fun e w' => ∃ v', e = .returned v' ∧ ItsX 76 (fun b => wr.heap.size ≤ b) d w' v' s.kids ∧ Below W.heap.size W w' from fun W hW => (HREC.out _ W ((HKD.out.later hwb).later hW)).mono fun e w' ⟨v', h1, h2, h3⟩ => ⟨v', h1, h2.weak fun b hb => Nat.le_trans (by have := hW.size; omega) hb, h3⟩)
      have HOR := Lib.hid (show ∀ W, Below wb.heap.size wb W → W.ownsRow w.heap.size 76 6 u3 i cs from fun W hW => own_grown HOW.out fun g hg => by
        have hlt := (HOW.out.lt g hg).2
        exact (hW.block g (by omega)).trans (hwb.block g hlt))
      have HPU := Lib.hid (show ∀ WA wF kv gg n cap, Below wb.heap.size wb WA → ItsX 76 (fun b => wr.heap.size ≤ b) d WA kv s.kids → WA.grownBy wF u3.ownBlock → (u3.ownBlock = some gg ∨ gg = WA.heap.size) → ItCs 76 (fun b => w.heap.size ≤ b) d wF (.slice (some ⟨gg, 0, none⟩) n cap) (l.take i ++ [s]) (cs ++ itC s kv) ∧ Below w.heap.size w wF ∧ wF.cell? ⟨wr.heap.size, 0, none⟩ = some (.int .i64 s.kind) ∧ wF.cell? ⟨wr.heap.size, 1, none⟩ = some (.string s.name) ∧ wF.cell? ⟨wr.heap.size, 2, none⟩ = some (.int .i64 s.num) ∧ wF.cell? ⟨wr.heap.size, 3, none⟩ = some (.int .i64 s.slot) ∧ wF.cell? ⟨wr.heap.size, 4, none⟩ = some (.int .i64 s.width) ∧ wF.cell? ⟨wr.heap.size, 5, none⟩ = some (.slice ka s.kids.length kc) from fun WA wF kv gg n cap hW h1 h3 h4 =>
        ⟨it_push HNC.out (fun g hg => (HOW.out.lt g hg).2) (fun k hk _ _ _ => (hwb.trans (hW.mono (by omega))).block k hk) (hwb.trans (hW.mono (by omega))).size h1 HNK.out (fun b hb => Nat.le_trans hwr hb) h3 h4, (HB.out.trans ((hwb.trans (hW.mono (by omega))).mono hwr)).grown h3 (by have := hW.size; omega) fun g hg => (HOW.out.lt g hg).1, by
          obtain ⟨a0, a1, a2, a3, a4, a5⟩ := HCB.out WA hW
          have hne : some wr.heap.size ≠ u3.ownBlock := fun e => by have := (HOW.out.lt _ e.symm).2; omega
          exact ⟨h3.cell a0 hne, h3.cell a1 hne, h3.cell a2 hne, h3.cell a3 hne, h3.cell a4 hne, h3.cell a5 hne⟩⟩)
      have k0 : Below wb.heap.size wb wb := Below.refl _ _
      have hi200 : i ≤ 300 := by omega
      obtain ⟨p0, p1, p2, p3, p4, p5⟩ := HCB.out wb.drew (Below.refl _ _).drew
      clear hwb hbk
      go_region_held3 (fun w' => w'.cell? ⟨wr.heap.size, 0, none⟩ = some (.int .i64 s.kind) ∧ w'.cell? ⟨wr.heap.size, 1, none⟩ = some (.string s.name) ∧ w'.cell? ⟨wr.heap.size, 2, none⟩ = some (.int .i64 s.num) ∧ w'.cell? ⟨wr.heap.size, 3, none⟩ = some (.int .i64 s.slot) ∧ w'.cell? ⟨wr.heap.size, 4, none⟩ = some (.int .i64 s.width) ∧ w'.cell? ⟨wr.heap.size, 5, none⟩ = some (.slice ka s.kids.length kc))
        (first | exact ⟨p0, p1, p2, p3, p4, p5⟩ | exact HPF.out.2.2 | (refine HCB.out _ ?_; repeat (first | with_reducible exact Below.refl _ _ | ((with_reducible refine Below.setCell ?_ ?_ _); rotate_left; focus (first | (simp; done) | (simp; omega) | omega)) | ((with_reducible refine Below.alloc ?_ ?_ _); rotate_left; focus (first | (simp; done) | (simp; omega) | omega)) | (with_reducible refine Below.drew ?_) | ((with_reducible refine Below.trans ?_ (Below.mono hbN ?_)); rotate_left; focus (first | (simp; done) | (simp; omega) | omega)) | ((with_reducible refine Below.trans ?_ (Below.mono k0 ?_)); rotate_left; focus (first | (simp; done) | (simp; omega) | omega)))))
        (first
          | (refine step_append_lies _ rfl (.tmp 12) (.tmp 27) 45 rfl w.heap.size 76 iN _ 6 72 Try.underlying45 hiN nz0 nz1 nz2 rfl (by omega) u3 i cs (by rfl) (HOR.out _ ?_) ⟨_, 0, none⟩ 1 1 (itC s (.slice aN s.kids.length cN)) (by rfl) rfl (World.news_of_block (cs := #[.int .i64 s.kind, .string s.name, .int .i64 s.num, .int .i64 s.slot, .int .i64 s.width, .slice aN s.kids.length cN]) (heap_alloc_new _ _)) ?_ (by omega) (by unfold maxLen; omega) (by omega) ?_ _ rfl ?_
             · repeat (first | with_reducible exact Below.refl _ _ | ((with_reducible refine Below.setCell ?_ ?_ _); rotate_left; focus (first | (simp; done) | (simp; omega) | omega)) | ((with_reducible refine Below.alloc ?_ ?_ _); rotate_left; focus (first | (simp; done) | (simp; omega) | omega)) | (with_reducible refine Below.drew ?_) | ((with_reducible refine Below.trans ?_ (Below.mono hbN ?_)); rotate_left; focus (first | (simp; done) | (simp; omega) | omega)) | ((with_reducible refine Below.trans ?_ (Below.mono k0 ?_)); rotate_left; focus (first | (simp; done) | (simp; omega) | omega)))
             · simp [itC, Value.oneCell']
             · first | omega | (simp; omega)
             intro gg cap6 wF hownF hgrF hatF hltF
             have HPF := Lib.hid (HPU.out _ wF (.slice aN s.kids.length cN) gg (i + 1) cap6 (by repeat (first | with_reducible exact Below.refl _ _ | ((with_reducible refine Below.setCell ?_ ?_ _); rotate_left; focus (first | (simp; done) | (simp; omega) | omega)) | ((with_reducible refine Below.alloc ?_ ?_ _); rotate_left; focus (first | (simp; done) | (simp; omega) | omega)) | (with_reducible refine Below.drew ?_) | ((with_reducible refine Below.trans ?_ (Below.mono hbN ?_)); rotate_left; focus (first | (simp; done) | (simp; omega) | omega)) | ((with_reducible refine Below.trans ?_ (Below.mono k0 ?_)); rotate_left; focus (first | (simp; done) | (simp; omega) | omega)))) (hN.later (by repeat (first | with_reducible exact Below.refl _ _ | ((with_reducible refine Below.setCell ?_ ?_ _); rotate_left; focus (first | (simp; done) | (simp; omega) | omega)) | ((with_reducible refine Below.alloc ?_ ?_ _); rotate_left; focus (first | (simp; done) | (simp; omega) | omega)) | (with_reducible refine Below.drew ?_) | ((with_reducible refine Below.trans ?_ (Below.mono k0 ?_)); rotate_left; focus (first | (simp; done) | (simp; omega) | omega))))) hgrF hatF))
          | (go_at_call 17
             refine (HRC.out _ ?_).mono ?_
             · repeat (first | with_reducible exact Below.refl _ _ | ((with_reducible refine Below.setCell ?_ ?_ _); rotate_left; focus (first | (simp; done) | (simp; omega) | omega)) | ((with_reducible refine Below.alloc ?_ ?_ _); rotate_left; focus (first | (simp; done) | (simp; omega) | omega)) | (with_reducible refine Below.drew ?_) | ((with_reducible refine Below.trans ?_ (Below.mono k0 ?_)); rotate_left; focus (first | (simp; done) | (simp; omega) | omega)))
             rintro e wC ⟨vN, rfl, hN, hbN⟩
             obtain ⟨aN, cN, rfl, -⟩ := id hN.shape
             have zN := hbN.size
             (try simp at zN)))
      all_goals
        have HOF := Lib.hid hownF
        clear p0 p1 p2 p3 p4 p5 hN hbN hownF hgrF hatF k0
        go_wp2_with fail
        go_roundg (l.length - (i + 1))
        case measure => rw [HGG.out]; omega
        case rel => exact ⟨i + 1, _, rfl, by omega, by go_num, HOF.out, by rw [HT.out]; exact HPF.out.1, HPF.out.2.1⟩
    · have : i = l.length := by omega
      subst this
      have HT : Hid (l.take l.length = l) := Lib.hid List.take_length
      have HF := Lib.hid (show ItsX 76 (fun b => w.heap.size ≤ b) (d + 1) wr u3 l by
        have h1 := HNC.out
        rw [HT.out] at h1
        exact h1.items HOW.out (fun b h => h) fun g hg => (HOW.out.lt g hg).1)
      go_wp2_with fail
      go_ret
      exact ⟨_, rfl, HF.out, HB.out⟩
theorem itemsM_any : ∀ (d : Nat) (x : Nat → Prop) (v : Value) (l : List It) (w : World), ItsX 73 x d w v l → smI d l →
    Calls Try.prog 17 #[v] w fun e w' => ∃ v', e = .returned v' ∧ ItsX 76 (fun b => w.heap.size ≤ b) d w' v' l ∧ Below w.heap.size w w'
  | 0, x, v, l, w, h, hs => by
      obtain rfl : l = [] := h.1
      refine (items_step x 0 v [] w h.succ (by simp) fun n kv' W hn => by cases hn).mono ?_
      rintro e w' ⟨v', h1, h2, h3⟩
      obtain ⟨a, c, rfl, -, q2, q3, -⟩ := h2
      exact ⟨_, h1, ⟨rfl, a, c, rfl, q2, q3⟩, h3⟩
  | d + 1, x, v, l, w, h, hs => items_step x d v l w h hs.1 fun n kv' W hn hk => itemsM_any d x kv' n.kids W hk (hs.2 n hn)
end Go.Proofs.Ytpfgidhchjcomaa
namespace Go.Proofs.Ytpfgidhchjcomaa
open Go.RowKit
set_option linter.unusedVariables false
def codeV (nm : ByteArray) (a s p : Int) (bv : Value) : Value := .agg #[.string nm, .int .i64 a, .int .i64 s, .int .i64 p, bv]
set_option maxRecDepth 100000 in
set_option maxHeartbeats 4000000 in
theorem told_any (x : Nat → Prop) (d : Nat) (nm : ByteArray) (a s p : Int) (bv : Value) (l : List It) (w : World) (h : ItsX 73 x d w bv l) (hs : smI d l) :
    Calls Try.prog 9 #[codeV nm a s p bv] w fun e w' => ∃ v', e = .returned (codeV nm a s p v') ∧ ItsX 76 (fun b => w.heap.size ≤ b) d w' v' l ∧ Below w.heap.size w w' := by
  obtain ⟨ba, bc, rfl, -⟩ := id h.shape
  have HI := Lib.hid (fun W (hb : Below w.heap.size w W) => itemsM_any d x _ l W (h.later hb) hs)
  clear h hs
  show Calls Try.prog 9 #[.agg #[.string nm, .int .i64 a, .int .i64 s, .int .i64 p, .slice ba l.length bc]] w _
  go_enter Try.func9, Try.ntmps9
  go_upto_region 1 with fail
  have hwb : Below w.heap.size w ((w.alloc (.cells #[.string nm, .int .i64 a, .int .i64 s, .int .i64 p, .slice ba l.length bc] 35)).alloc (.cells #[.string ⟨#[]⟩, .int .i64 0, .int .i64 0, .int .i64 0, .slice none 0 0] 47)) := ((Below.refl _ _).alloc (Nat.le_refl _) _).alloc (by simp) _
  have q1 : ((w.alloc (.cells #[.string nm, .int .i64 a, .int .i64 s, .int .i64 p, .slice ba l.length bc] 35)).alloc (.cells #[.string ⟨#[]⟩, .int .i64 0, .int .i64 0, .int .i64 0, .slice none 0 0] 47)).heap[w.heap.size]? = some (.cells #[.string nm, .int .i64 a, .int .i64 s, .int .i64 p, .slice ba l.length bc] 35 (0, 0)) := (heap_alloc_old _ _ (by simp)).trans (heap_alloc_new w _)
  have q2 : ((w.alloc (.cells #[.string nm, .int .i64 a, .int .i64 s, .int .i64 p, .slice ba l.length bc] 35)).alloc (.cells #[.string ⟨#[]⟩, .int .i64 0, .int .i64 0, .int .i64 0, .slice none 0 0] 47)).heap[w.heap.size + 1]? = some (.cells #[.string ⟨#[]⟩, .int .i64 0, .int .i64 0, .int .i64 0, .slice none 0 0] 47 (0, 0)) := by
    have := heap_alloc_new (w.alloc (.cells #[.string nm, .int .i64 a, .int .i64 s, .int .i64 p, .slice ba l.length bc] 35)) (.cells #[.string ⟨#[]⟩, .int .i64 0, .int .i64 0, .int .i64 0, .slice none 0 0] 47)
    simpa using this
  have hsz : ((w.alloc (.cells #[.string nm, .int .i64 a, .int .i64 s, .int .i64 p, .slice ba l.length bc] 35)).alloc (.cells #[.string ⟨#[]⟩, .int .i64 0, .int .i64 0, .int .i64 0, .slice none 0 0] 47)).heap.size = w.heap.size + 2 := by simp
  generalize ((w.alloc (.cells #[.string nm, .int .i64 a, .int .i64 s, .int .i64 p, .slice ba l.length bc] 35)).alloc (.cells #[.string ⟨#[]⟩, .int .i64 0, .int .i64 0, .int .i64 0, .slice none 0 0] 47)) = wb at *
  have HWB := Lib.hid hwb
  have HCB := Lib.hid (show ∀ W, Below wb.heap.size wb W → W.cell? ⟨w.heap.size, 0, none⟩ = some (.string nm) ∧ W.cell? ⟨w.heap.size, 1, none⟩ = some (.int .i64 a) ∧ W.cell? ⟨w.heap.size, 2, none⟩ = some (.int .i64 s) ∧ W.cell? ⟨w.heap.size, 3, none⟩ = some (.int .i64 p) ∧ W.cell? ⟨w.heap.size, 4, none⟩ = some (.slice ba l.length bc) from fun W hW => by
    have a1 := (hW.block w.heap.size (by omega)).trans q1
    exact ⟨cell_of_row W _ _ _ _ _ a1, cell_of_row W _ _ _ _ _ a1, cell_of_row W _ _ _ _ _ a1, cell_of_row W _ _ _ _ _ a1, cell_of_row W _ _ _ _ _ a1⟩)
  have HC2 := Lib.hid (show ∀ W, Below wb.heap.size wb W → W.heap[w.heap.size + 1]? = some (.cells #[.string ⟨#[]⟩, .int .i64 0, .int .i64 0, .int .i64 0, .slice none 0 0] 47 (0, 0)) from fun W hW => (hW.block (w.heap.size + 1) (by omega)).trans q2)
  have HII := Lib.hid (show ∀ W, Below wb.heap.size wb W → Calls Try.prog 17 #[.slice ba l.length bc] W fun e w' => ∃ v', e = .returned v' ∧ ItsX 76 (fun b => w.heap.size ≤ b) d w' v' l ∧ Below W.heap.size W w' from fun W hW => (HI.out W (hwb.trans (hW.mono (by omega)))).mono fun e w' ⟨v', h1, h2, h3⟩ => ⟨v', h1, h2.weak fun b hb => Nat.le_trans (by have := hW.size; omega) hb, h3⟩)
  have k0 : Below wb.heap.size wb wb := Below.refl _ _
  obtain ⟨p0, p1, p2, p3, p4⟩ := HCB.out wb.drew (Below.refl _ _).drew
  clear q1 q2 hwb
  go_region_held3 (fun w' => w'.cell? ⟨w.heap.size, 0, none⟩ = some (.string nm) ∧ w'.cell? ⟨w.heap.size, 1, none⟩ = some (.int .i64 a) ∧ w'.cell? ⟨w.heap.size, 2, none⟩ = some (.int .i64 s) ∧ w'.cell? ⟨w.heap.size, 3, none⟩ = some (.int .i64 p) ∧ w'.cell? ⟨w.heap.size, 4, none⟩ = some (.slice ba l.length bc))
    (first | with_reducible exact ⟨p0, p1, p2, p3, p4⟩ | with_reducible exact ⟨r0, r1, r2, r3, r4⟩ | (refine ⟨?_, ?_, ?_, ?_, ?_⟩ <;> (repeat rw [World.cell?_setCell_far _ _ _ _ (by simp)]) <;> with_reducible assumption))
    (first
      | (go_at_call 17
         refine (HII.out _ ?_).mono ?_
         · repeat (first | with_reducible exact Below.refl _ _ | ((with_reducible refine Below.setCell ?_ ?_ _); rotate_left; focus (first | (simp; done) | (simp; omega) | omega)) | ((with_reducible refine Below.alloc ?_ ?_ _); rotate_left; focus (first | (simp; done) | (simp; omega) | omega)) | (with_reducible refine Below.drew ?_) | ((with_reducible refine Below.trans ?_ (Below.mono k0 ?_)); rotate_left; focus (first | (simp; done) | (simp; omega) | omega)))
         rintro e wC ⟨vN, rfl, hN, hbN⟩
         obtain ⟨aN, cN, rfl, -⟩ := id hN.shape
         have hbC : Below wb.heap.size wb wC := (Below.refl _ wb).drew.trans (hbN.mono (by simp))
         obtain ⟨r0, r1, r2, r3, r4⟩ := HCB.out wC hbC
         have z2 := HC2.out wC hbC
         have y0 := cell_of_row wC _ 0 _ _ _ z2
         have y1 := cell_of_row wC _ 1 _ _ _ z2
         have y2 := cell_of_row wC _ 2 _ _ _ z2
         have y3 := cell_of_row wC _ 3 _ _ _ z2
         have y4 := cell_of_row wC _ 4 _ _ _ z2
         have yf : ∀ j, wC.frozen? ⟨w.heap.size + 1, j, none⟩ = false := (by intro j; unfold World.frozen?; rw [z2]; simp)
         simp at y0 y1 y2 y3 y4
         have zN := hbC.size))
  have HN := Lib.hid (show ItsX 76 (fun b => w.heap.size ≤ b ∧ b ≠ w.heap.size + 1) d wC (.slice aN l.length cN) l from hN.turn fun b _ hb ht => ⟨hb, fun e => by
    obtain ⟨cs, fr, h⟩ := ht
    rw [e, z2] at h
    simp at h⟩)
  have HB := Lib.hid (show Below w.heap.size w wC from HWB.out.trans (hbC.mono (by omega)))
  have HZ2 := Lib.hid z2
  clear hN hbN hbC z2 p0 p1 p2 p3 p4 r0 r1 r2 r3 r4 k0
  go_wp2_with fail
  refine bodyPost_ret (v := codeV nm a s p (.slice aN l.length cN)) (results_cell_row Try.results9 _ _ (w.heap.size + 1) 47 #[.string nm, .int .i64 a, .int .i64 s, .int .i64 p, .slice aN l.length cN] (0, 0) _ rfl (heap_set5 HZ2.out _ _ _ _ _) Try.underlying47 rfl (by kernel_rfl)) rfl ?_
  refine ⟨_, rfl, ((HN.out).keep fun k _ hk _ => ?_).weak fun b hb => hb.1, ?_⟩
  · rw [heap_set_far hk.2, heap_set_far hk.2, heap_set_far hk.2, heap_set_far hk.2, heap_set_far hk.2]
  · repeat (first | with_reducible exact Below.refl _ _ | ((with_reducible refine Below.setCell ?_ ?_ _); rotate_left; focus (first | (simp; done) | (simp; omega) | omega)) | ((with_reducible refine Below.alloc ?_ ?_ _); rotate_left; focus (first | (simp; done) | (simp; omega) | omega)) | (with_reducible refine Below.drew ?_) | ((with_reducible refine Below.trans ?_ (Below.mono HB.out ?_)); rotate_left; focus (first | (simp; done) | (simp; omega) | omega)))
end Go.Proofs.Ytpfgidhchjcomaa
namespace Go.Proofs.Ytpfgidhchjcomaa
open Go.RowKit
set_option linter.unusedVariables false
set_option maxRecDepth 100000 in
set_option maxHeartbeats 8000000 in
theorem sameI_step (T : TypeId) (x y : Nat → Prop) (d : Nat) (v u : Value) (l : List It) (w : World) (h : ItsX T x (d + 1) w v l) (g : ItsX T y (d + 1) w u l)
    (H : ∀ n kv ku W, n ∈ l → ItsX T x d W kv n.kids → ItsX T y d W ku n.kids → Calls Try.prog 16 #[kv, ku] W fun e w' => e = .returned (.bool true) ∧ Below W.heap.size W w') :
    Calls Try.prog 16 #[v, u] w fun e w' => e = .returned (.bool true) ∧ Below w.heap.size w w' := by
  obtain ⟨va, vc, rfl, h1, h2, -⟩ := h.shape
  obtain ⟨ua, uc, rfl, g1, g2, -⟩ := g.shape
  have HS := Lib.hid h
  have GS := Lib.hid g
  have HH := Lib.hid H
  have hn : l.length ≤ 9223372036854775807 := Nat.le_trans h1 h2
  clear h g H
  go_enter Try.func16, Try.ntmps16
  go_wp2_with fail
  go_loopg [5] l.length (fun gg s5 wr => ∃ i : Nat, gg = l.length - i ∧ i ≤ l.length ∧ s5 = .int .i64 (i : Int) ∧ Below w.heap.size w wr)
  case atStart => exact ⟨0, rfl, by omega, rfl, Below.refl _ _⟩
  case round =>
    obtain ⟨i, hg, hi, rfl, hb⟩ := hrel
    have HGG := Lib.hid hg
    have HB := Lib.hid hb
    have HSI := Lib.hid (HS.out.later hb)
    have GSI := Lib.hid (GS.out.later hb)
    clear hg hb
    by_cases hlt' : i < l.length
    · have hl := List.getElem?_eq_getElem hlt'
      obtain ⟨b, o, kv, rfl, c0, c1, c2, c3, c4, c5, hk, -⟩ := HSI.out.at i _ hl
      obtain ⟨b', o', ku, rfl, d0, d1, d2, d3, d4, d5, hk', -⟩ := GSI.out.at i _ hl
      have PX := Lib.hid (show ∀ W, Below wr.heap.size wr W → Calls Try.prog 16 #[kv, ku] W fun e w' => e = .returned (.bool true) ∧ Below W.heap.size W w' from fun W hW => HH.out l[i] kv ku W (List.getElem_mem hlt') (hk.later hW) (hk'.later hW))
      clear hk hk' hl
      generalize l[i] = s at *
      have hbl := lt_of_cell c0
      have hbl' := lt_of_cell d0
      have i1 : (0 : Int) ≤ (i : Int) := by omega
      have i2 : (i : Int) < (l.length : Int) := by omega
      have n1 : (s.kind != s.kind) = false := by simp
      have n2 : (s.name.toList != s.name.toList) = false := by simp
      have n3 : (s.num != s.num) = false := by simp
      have n4 : (s.slot != s.slot) = false := by simp
      have n5 : (s.width != s.width) = false := by simp
      go_upto_region 6 with fail
      simp only [List.append]
      (refine wp_region_later (by kernel_rfl) (by kernel_rfl) ?_; (repeat (go_big_quiet_step (((go_at_call 16; exact calls_later_if PX.out))))); refine wpQuiet_nil ?_; intro w4 hw4; have hg := later_elim hw4; clear hw4)
      have H5 := Lib.hid (HB.out.trans (hg.mono HB.out.size))
      clear hg
      go_wp2_with fail
      go_roundg (l.length - (i + 1))
      case measure => rw [HGG.out]; omega
      case rel => exact ⟨i + 1, rfl, by omega, by go_num, H5.out⟩
    · have : i = l.length := by omega
      subst this
      go_wp2_with fail
      go_ret
      exact ⟨rfl, HB.out⟩
theorem sameI_any (T : TypeId) (x y : Nat → Prop) : ∀ (d : Nat) (v u : Value) (l : List It) (w : World), ItsX T x d w v l → ItsX T y d w u l →
    Calls Try.prog 16 #[v, u] w fun e w' => e = .returned (.bool true) ∧ Below w.heap.size w w'
  | 0, v, u, l, w, h, g => by
      obtain rfl : l = [] := h.1
      exact sameI_step T x y 0 v u [] w h.succ g.succ fun n kv ku W hn => by cases hn
  | d + 1, v, u, l, w, h, g => sameI_step T x y d v u l w h g fun n kv ku W hn hk hk' => sameI_any T x y d kv ku n.kids W hk hk'
set_option maxRecDepth 100000 in
set_option maxHeartbeats 4000000 in
theorem same_any (T : TypeId) (x y : Nat → Prop) (d : Nat) (nm : ByteArray) (a s p : Int) (v u : Value) (l : List It) (w : World) (h : ItsX T x d w v l) (g : ItsX T y d w u l) :
    Calls Try.prog 8 #[codeV nm a s p v, codeV nm a s p u] w fun e w' => e = .returned (.bool true) ∧ Below w.heap.size w w' := by
  have SI := Lib.hid (fun W (hb : Below w.heap.size w W) => sameI_any T x y d v u l W (h.later hb) (g.later hb))
  clear h g
  show Calls Try.prog 8 #[.agg #[.string nm, .int .i64 a, .int .i64 s, .int .i64 p, v], .agg #[.string nm, .int .i64 a, .int .i64 s, .int .i64 p, u]] w _
  go_enter Try.func8, Try.ntmps8
  go_wp2_with fail
  refine (SI.out _ (((Below.refl _ _).alloc (Nat.le_refl _) _).alloc (by simp) _)).mono ?_
  rintro e w1 ⟨rfl, hb⟩
  have HB := Lib.hid (show Below w.heap.size w w1 from (((Below.refl _ _).alloc (Nat.le_refl _) _).alloc (by simp) _).trans (hb.mono (by simp; omega)))
  clear hb
  go_wp2_with fail
  go_ret
  exact ⟨rfl, HB.out⟩
end Go.Proofs.Ytpfgidhchjcomaa
