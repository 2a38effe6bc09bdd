/- A region that draws its order, whose operations that change memory come in one order alone: a walk by segments; between them what only reads. -/
import Derived.Test.YtibopjjicfiimaaGreatDoorTownN
import Derived.Deep.RegionHeld
import Derived.Deep.RegionHeld3
import Derived.Deep.Quiet
import Derived.BigQuiet
import Derived.Great.BuildSlice
namespace Go.Proofs.YtibopjjicfiimaaGreatDoor
open Go.RowKit
set_option linter.unusedVariables false
/-- a world of which S holds -/
def HeldT (S : World → Prop) : Type := { w : World // S w }
def held (S : World → Prop) (x : HeldT S) : World := x.1
theorem held_is (S : World → Prop) (x : HeldT S) : S (held S x) := x.2
theorem held_inh {S : World → Prop} {w : World} (h : S w) : Nonempty (HeldT S) := ⟨⟨w, h⟩⟩
/-- operations that yield a value or halt -/
def valued (o : Oper) : Bool := match o.op with
  | .move _ | .assign _ | .load .. | .binOp .. | .convert .. | .fieldAddr .. | .indexAddr .. | .lookup .. | .unOp .. | .slice .. => true
  | _ => false
theorem valued_ok {P : Program} {o : Oper} {ρ : Operand → Value} {w w' : World} {n : Next} (h : valued o = true) (hr : (execOp ρ o).run P w = .ok n w') : ∃ v, n = .value v := by
  unfold valued at h
  unfold execOp at hr
  split at h
  all_goals first
    | (cases h; done)
    | (rename_i heq
       simp only [heq] at hr
       simp only [Sem.run_bind, Sem.run_pure] at hr
       first
         | (simp only [Result.ok.injEq] at hr; exact ⟨_, hr.1.symm⟩)
         | (revert hr
            generalize Sem.run P _ w = r
            intro hr
            cases r with
            | ok a w2 =>
              first
                | (simp only [Result.andThen, Result.ok.injEq] at hr; exact ⟨_, hr.1.symm⟩)
                | (simp only [Result.andThen] at hr
                   split at hr
                   · simp only [Result.ok.injEq] at hr; exact ⟨_, hr.1.symm⟩
                   · cases hr)
            | halt x w2 => simp [Result.andThen] at hr))
def takeB (md : Region.Mode) (ops : Array Oper) : List Nat → Array Bool → Bool
  | [], _ => true
  | i :: is, listed => Region.free md ops listed i && (Region.ready md ops listed).contains i && takeB md ops is (listed.setIfInBounds i true)
def mark (listed : Array Bool) (is : List Nat) : Array Bool := is.foldl (fun l i => l.setIfInBounds i true) listed
/-- a segment of what only reads is taken first -/
theorem seg_take {P : Program} {ops : Array Oper} {md : Region.Mode} {Q : Exit → Act → World → Prop} {S : World → Prop} (hs : Region.noSelect ops = true) (hQ : ∀ (c : _) (d : Option Tmp) (v : Value) (a : Act) (w : World), Q (.panic c) (a.put d v) w → Q (.panic c) a w) :
    ∀ (is : List Nat) (os : List Oper) (fuel : Nat) (listed : Array Bool) (a : Act) (w : World), (is.map fun i => ops[i]?) = os.map some → takeB md ops is listed = true → os.all valued = true → S w →
      wpQuiet P ops (fun w' => ∃ x, w' = held S x) (fun a' => wpAnyH P md ops Q S fuel (mark listed is) a' w) os a → wpAnyH P md ops Q S (fuel + is.length) listed a w
  | [], [], fuel, listed, a, w, _, _, _, _, h => h
  | [], _ :: _, _, _, _, _, h, _, _, _, _ => by simp at h
  | _ :: _, [], _, _, _, _, h, _, _, _, _ => by simp at h
  | i :: is, o :: os, fuel, listed, a, w, hm, hc, hv, hS, h => by
    simp only [List.map_cons, List.cons.injEq] at hm
    simp only [takeB, Bool.and_eq_true] at hc
    simp only [List.all_cons, Bool.and_eq_true] at hv
    obtain ⟨⟨c1, c2⟩, c3⟩ := hc
    have key : ∀ v, YieldsIf P ops S o v a → wpQuiet P ops (fun w' => ∃ x, w' = held S x) (fun a' => wpAnyH P md ops Q S fuel (mark listed (i :: is)) a' w) os (a.put o.dst v) → wpAnyH P md ops Q S (fuel + (i :: is).length) listed a w := fun v hy hh =>
      wpAnyH_take (fuel := fuel + is.length) hm.1 hs c1 c2 (fun c a w => hQ c _ _ a w) hy hS (seg_take hs hQ is os fuel _ _ w hm.2 c3 hv.2 hS hh)
    unfold wpQuiet at h
    split at h
    · rename_i hw
      obtain ⟨v, h1, h2⟩ := h
      refine key v (.inl ⟨hw, fun w' hS' => ?_⟩) h2
      have h3 := h1 w' ⟨⟨w', hS'⟩, rfl⟩
      unfold Oper.quietAt at h3
      generalize hr : (execOp a.eval o).run P w' = r at h3
      cases r with
      | ok n w2 =>
        obtain ⟨u, rfl⟩ := valued_ok hv.1 hr
        simp only [Oper.quietUpon] at h3
        rw [h3.1, h3.2]
      | halt x w2 => simp only [Oper.quietUpon] at h3
    · rename_i hw
      exact key undef (.inr ⟨by simpa using hw, rfl⟩) h
inductive Picks (l : List Oper) : List Nat → List Oper → Prop
  | nil : Picks l [] []
  | cons {i : Nat} {is : List Nat} {o : Oper} {os : List Oper} : l[i]? = some o → Picks l is os → Picks l (i :: is) (o :: os)
theorem Picks.map {l : List Oper} {is : List Nat} {os : List Oper} (h : Picks l is os) : (is.map fun i => l.toArray[i]?) = os.map some := by
  induction h with
  | nil => rfl
  | cons h _ ih =>
    simp only [List.map_cons, List.getElem?_toArray] at ih ⊢
    rw [h, ih]
theorem seg_run {P : Program} {l : List Oper} {md : Region.Mode} {Q : Exit → Act → World → Prop} {S : World → Prop} (is : List Nat) {os : List Oper} (fuel : Nat) {fuel' : Nat} {listed : Array Bool} {a : Act} {w : World} (hp : Picks l is os) (hs : Region.noSelect l.toArray = true) (hQ : ∀ (c : _) (d : Option Tmp) (v : Value) (a : Act) (w : World), Q (.panic c) (a.put d v) w → Q (.panic c) a w)
    (hf : fuel' = fuel + is.length) (hc : takeB md l.toArray is listed = true) (hv : os.all valued = true) (hS : S w)
    (h : wpQuiet P l.toArray (fun w' => ∃ x, w' = held S x) (fun a' => wpAnyH P md l.toArray Q S fuel (mark listed is) a' w) os a) : wpAnyH P md l.toArray Q S fuel' listed a w := by
  subst hf
  exact seg_take hs hQ is os fuel listed a w hp.map hc hv hS h
/-- behind one operation -/
def EffQ (Q : Exit → Act → World → Prop) (Post : Act → World → Prop) : Exit → Act → World → Prop
  | .normal, a, w => Post a w
  | e, a, w => Q e a w
theorem eff_upon {P : Program} {o : Oper} {a : Act} {K : Act → World → Prop} {Q : Exit → Act → World → Prop} {Post : Act → World → Prop} {r : Result Next} (h : o.upon P a K (EffQ Q Post) r) : o.upon P a K Q r := by
  cases r with
  | ok n w' => cases n <;> exact h
  | halt x w' => cases x <;> exact h
/-- the one operation that may come up -/
theorem eff_one {P : Program} {ops : Array Oper} {md : Region.Mode} {Q : Exit → Act → World → Prop} {S : World → Prop} {i fuel : Nat} {o : Oper} {listed : Array Bool} {a : Act} {w : World} (hi : ops[i]? = some o) (hr : Region.ready md ops listed = [i])
    (h : wpList P ops (EffQ Q fun a' w' => S w' ∧ wpAnyH P md ops Q S fuel (listed.setIfInBounds i true) a' w') [o] a w) : wpAnyH P md ops Q S (fuel + 1) listed a w := by
  refine wpAnyH_all hr (by simp) fun j hj => ?_
  obtain rfl := List.mem_singleton.1 hj
  unfold wpOp
  rw [hi]
  simp only
  unfold wpList at h
  split at h
  · rename_i hw
    rw [if_pos hw]
    rcases h with h | ⟨h1, a2, w2, h2⟩
    · exact .inl (Oper.wp_mono (fun a' w' hh => hh) (eff_upon h))
    · exact .inr ⟨h1, a2, w2, h2⟩
  · rename_i hw
    rw [if_neg hw]
    exact h
theorem eff_run {P : Program} {l : List Oper} {md : Region.Mode} {Q : Exit → Act → World → Prop} {S : World → Prop} (i fuel : Nat) {fuel' : Nat} {o : Oper} {listed : Array Bool} {a : Act} {w : World} (hi : l[i]? = some o) (hf : fuel' = fuel + 1) (hr : Region.ready md l.toArray listed = [i])
    (h : wpList P l.toArray (EffQ Q fun a' w' => S w' ∧ wpAnyH P md l.toArray Q S fuel (listed.setIfInBounds i true) a' w') [o] a w) : wpAnyH P md l.toArray Q S fuel' listed a w := by
  subst hf
  exact eff_one (by rw [List.getElem?_toArray]; exact hi) hr h
/-- a literal of numbers -/
theorem wpList_words {ops : Array Oper} {rest : List Oper} {o : Oper} {a : Act} {w : World} {Q : Exit → Act → World → Prop} (hg : o.guard = none) (len : Nat) (ps : List (Nat × Operand)) (ho : o.op = .buildSlice 56 len ps.toArray)
    (xs : List Nat) (hl : len = xs.length) (hpos : 0 < len) (hsm : len ≤ 100) (hparts : (ps.map fun p => (p.1, a.eval p.2)) = ((wordVals xs).zipIdx 0).map fun x => (x.2, x.1))
    (h : wpList Tryz.prog ops Q rest (a.put o.dst (.slice (some ⟨w.heap.size, 0, none⟩) len len)) (w.alloc (.cells (wordVals xs).toArray 30))) : wpList Tryz.prog ops Q (o :: rest) a w := by
  obtain ⟨i, hi, hz, hsz, hby⟩ := info_parts u64Info
  refine wpList_buildSlice hg 56 30 len ps.toArray ho _ i (.int .u64 0) Tryz.underlying56 hi hz (by rw [hsz]; omega) (by rw [hsz]; omega) ?_ h
  rw [Array.toList_map, show (ps.toArray.toList.map fun (i, x) => (i, a.eval x)) = ((wordVals xs).zipIdx 0).map fun x => (x.2, x.1) from hparts, hsz]
  exact Great.fill_flat _ _ (fun v hv => by
    unfold wordVals at hv
    obtain ⟨n, _, rfl⟩ := List.mem_map.1 hv
    rfl) (by rw [hl]; simp [wordVals])
/-- a literal of none -/
theorem wpList_words0 {ops : Array Oper} {rest : List Oper} {o : Oper} {a : Act} {w : World} {Q : Exit → Act → World → Prop} (hg : o.guard = none) (ho : o.op = .buildSlice 56 0 #[])
    (h : wpList Tryz.prog ops Q rest (a.put o.dst (.slice (some ⟨w.heap.size, 0, none⟩) 0 0)) (w.alloc (.cells #[] 30))) : wpList Tryz.prog ops Q (o :: rest) a w := by
  obtain ⟨i, hi, hz, hsz, hby⟩ := info_parts u64Info
  have e : ∀ f : Nat → Value, Array.map f (Array.range 0) = #[] := fun f => by apply Array.eq_empty_of_size_eq_zero; simp
  have hr : (Instr.buildSlice 56 0 #[]).run Tryz.prog w = .ok (.slice (some ⟨w.heap.size, 0, none⟩) 0 0) (w.alloc (.cells #[] 30)) := by
    simp [Instr.buildSlice, run_underlying Tryz.underlying56, sizeOf, typeInfo, hi, newRow, Instr.fill]
    rw [e]
  refine wpList_plain hg fun _ hK => ?_
  unfold Oper.wp execOp
  simp only [ho, Sem.run_bind, List.map_toArray, List.map_nil, hr, Result.andThen_ok]
  exact hK _ _ h
end Go.Proofs.YtibopjjicfiimaaGreatDoor
