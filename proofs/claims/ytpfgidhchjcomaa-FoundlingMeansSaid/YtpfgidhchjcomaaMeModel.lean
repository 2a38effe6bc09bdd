/- What resolving comes to, in plain words. -/
import Derived.Test.YtpfgidhchjcomaaMeNames
namespace Go.Proofs.Ytpfgidhchjcomaa
open Go.RowKit
set_option linter.unusedVariables false
abbrev noName : ByteArray := ⟨#[]⟩
abbrev Kfn : Type := List Kn → Nat → List Nd → Option (List It × Nat)
def variableM (F G : List ByteArray) (kn : List Kn) (s : ByteArray) : Option It :=
  match pseudoM s with
  | some k => some (.mk k noName 0 0 0 [])
  | none => match findM kn s with
    | some k => some (.mk 10 noName 0 (k.slot : Int) 0 [])
    | none => if 0 ≤ fieldM F s then some (.mk 11 noName 0 (fieldM F s) 0 []) else if (s.toList == superL) = true then none else if hasM G s = true then some (.mk 9 s 0 0 0 []) else none
def assignBad (F : List ByteArray) (kn : List Kn) (s : ByteArray) : Bool :=
  (pseudoM s).isSome || (s.toList == superL) || (match findM kn s with | some k => !k.set | none => decide (fieldM F s < 0))
def assignM (F : List ByteArray) (K : Kfn) (kn : List Kn) (sl : Nat) (n : Nd) : Option (It × Nat) :=
  if assignBad F kn n.name = true then none
  else match K kn sl n.kids with
    | none => none
    | some r => match findM kn n.name with
      | some k => some (.mk 12 noName 0 (k.slot : Int) 0 r.1, r.2)
      | none => some (.mk 13 noName 0 (fieldM F n.name) 0 r.1, r.2)
def superB (n : Nd) : Bool := decide (n.kind = 7) && (match n.kids with | k :: _ => decide (k.kind = 5) && (k.name.toList == superL) | [] => false)
def sendM (K : Kfn) (kn : List Kn) (sl : Nat) (n : Nd) (may : Bool) : Option (It × Nat) :=
  if 13 < n.kids.length then none
  else if (superB n && may) = true then (K kn sl n.kids.tail).map fun r => (.mk 15 n.name 0 0 0 (.mk 8 noName 0 0 0 [] :: r.1), r.2)
  else (K kn sl n.kids).map fun r => (.mk 14 n.name 0 0 0 r.1, r.2)
def resLs (f : Nat → Nd → Option (It × Nat)) : Nat → List Nd → Option (List It × Nat)
  | s, [] => some ([], s)
  | s, n :: l => match f s n with
    | none => none
    | some r => (resLs f r.2 l).map fun q => (r.1 :: q.1, q.2)
def cascadeM (K : Kfn) (kn : List Kn) (sl : Nat) (n : Nd) : Option (It × Nat) := (resLs (fun s k => sendM K kn s k false) sl n.kids).map fun r => (.mk 16 noName 0 0 0 r.1, r.2)
def blockM (F : List ByteArray) (K : Kfn) (kn : List Kn) (sl : Nat) (n : Nd) : Option (It × Nat) :=
  match declAll F kn sl (namesP (n.names.take n.num.toNat) ++ namesV (n.names.drop n.num.toNat)) with
  | none => none
  | some q => (K q.1 q.2 n.kids).map fun r => (.mk 17 noName n.num (sl : Int) (n.names.length : Int) r.1, r.2)
def itemM (F G : List ByteArray) (K Kp : Kfn) (kn : List Kn) (sl : Nat) (n : Nd) : Option (It × Nat) :=
  if 1 ≤ n.kind ∧ n.kind ≤ 4 then (K kn sl n.kids).map fun r => (.mk n.kind n.name n.num 0 0 r.1, r.2)
  else if n.kind = 5 then (variableM F G kn n.name).map fun i => (i, sl)
  else if n.kind = 6 then assignM F K kn sl n
  else if n.kind = 7 then sendM K kn sl n true
  else if n.kind = 8 then cascadeM Kp kn sl n
  else if n.kind = 9 then blockM F K kn sl n
  else if n.kind = 10 then (K kn sl n.kids).map fun r => (.mk 18 noName 0 0 0 r.1, r.2)
  else some (.mk 19 noName 0 0 0 [], sl)
def lev (F G : List ByteArray) : Nat → Kfn × Kfn
  | 0 => (fun _ sl _ => some ([], sl), fun _ sl _ => some ([], sl))
  | d + 1 => (fun kn sl l => resLs (fun s n => itemM F G (lev F G d).1 (lev F G d).2 kn s n) sl l, (lev F G d).1)
def Kf (F G : List ByteArray) (d : Nat) : Kfn := (lev F G d).1
theorem resLs_snoc (f : Nat → Nd → Option (It × Nat)) : ∀ (l : List Nd) (x : Nd) (s : Nat), resLs f s (l ++ [x]) = (resLs f s l).bind fun (q : List It × Nat) => (f q.2 x).map fun (r : It × Nat) => (q.1 ++ [r.1], r.2)
  | [], x, s => by
    show (match f s x with | none => none | some r => (resLs f r.2 []).map fun (q : List It × Nat) => (r.1 :: q.1, q.2)) = (f s x).map fun (r : It × Nat) => ([] ++ [r.1], r.2)
    cases f s x <;> rfl
  | y :: l, x, s => by
    show (match f s y with | none => none | some r => (resLs f r.2 (l ++ [x])).map fun (q : List It × Nat) => (r.1 :: q.1, q.2)) = (match f s y with | none => none | some r => (resLs f r.2 l).map fun (q : List It × Nat) => (r.1 :: q.1, q.2)).bind fun (q : List It × Nat) => (f q.2 x).map fun (r : It × Nat) => (q.1 ++ [r.1], r.2)
    cases h : f s y with
    | none => rfl
    | some r =>
      simp only
      rw [resLs_snoc f l x r.2]
      cases resLs f r.2 l with
      | none => rfl
      | some q =>
        simp only [Option.bind_some, Option.map_some]
        cases f q.2 x <;> rfl
theorem resLs_none (f : Nat → Nd → Option (It × Nat)) : ∀ (l r : List Nd) (s : Nat), resLs f s l = none → resLs f s (l ++ r) = none
  | [], r, s, h => by cases h
  | y :: l, r, s, h => by
    show (match f s y with | none => none | some q => (resLs f q.2 (l ++ r)).map fun q' => (q.1 :: q'.1, q'.2)) = none
    change (match f s y with | none => none | some q => (resLs f q.2 l).map fun q' => (q.1 :: q'.1, q'.2)) = none at h
    cases hf : f s y with
    | none => rfl
    | some q =>
      rw [hf] at h
      simp only at h ⊢
      have h' : resLs f q.2 l = none := by
        cases hx : resLs f q.2 l with
        | none => rfl
        | some z => rw [hx] at h; cases h
      rw [resLs_none f l r q.2 h']
      rfl
/-- what a node wants that it be resolved without a fault of Go's own -/
def okN (n : Nd) : Prop := (n.kind = 7 → n.kids ≠ []) ∧ (n.kind = 9 → 0 ≤ n.num ∧ n.num ≤ n.names.length)
def okT : Nat → List Nd → Prop
  | 0, _ => True
  | d + 1, l => ∀ n, n ∈ l → okN n ∧ okT d n.kids
def itV (x : It) (kv : Value) : Value := .agg #[.int .i64 x.kind, .string x.name, .int .i64 x.num, .int .i64 x.slot, .int .i64 x.width, kv]
def AlPost (B : Nat) (w : World) (p : Nat) (kn : List Kn) (fv gv : Value) (F G : List ByteArray) (d : Nat) (r : Option (List It × Nat)) (e : Ending) (w' : World) : Prop :=
  match r with
  | none => (∃ at_, Faulted at_ e) ∧ Below B w w'
  | some q => ∃ v', e = .returned v' ∧ ItsX 73 (fun b => w.heap.size ≤ b) d w' v' q.1 ∧ RsAt B w' p kn q.2 fv gv F G ∧ Kt p w w' ∧ Below B w w'
def OnePost (B : Nat) (w : World) (p : Nat) (kn : List Kn) (fv gv : Value) (F G : List ByteArray) (d : Nat) (r : Option (It × Nat)) (e : Ending) (w' : World) : Prop :=
  match r with
  | none => (∃ at_, Faulted at_ e) ∧ Below B w w'
  | some q => ∃ kv, e = .returned (itV q.1 kv) ∧ ItsX 73 (fun b => w.heap.size ≤ b) d w' kv q.1.kids ∧ ItOk q.1 ∧ RsAt B w' p kn q.2 fv gv F G ∧ Kt p w w' ∧ Below B w w'
theorem OnePost.no {B : Nat} {w : World} {p : Nat} {kn : List Kn} {fv gv : Value} {F G : List ByteArray} {d : Nat} {r : Option (It × Nat)} {e : Ending} {w' : World} {at_ : Int} (hr : r = none) (h1 : Faulted at_ e) (h2 : Below B w w') : OnePost B w p kn fv gv F G d r e w' := by subst hr; exact ⟨⟨_, h1⟩, h2⟩
theorem OnePost.yes {B : Nat} {w : World} {p : Nat} {kn : List Kn} {fv gv : Value} {F G : List ByteArray} {d : Nat} {r : Option (It × Nat)} {e : Ending} {w' : World} {i : It} {s : Nat} {kv : Value} (hr : r = some (i, s)) (he : e = .returned (itV i kv)) (h1 : ItsX 73 (fun b => w.heap.size ≤ b) d w' kv i.kids) (h2 : ItOk i) (h3 : RsAt B w' p kn s fv gv F G) (h4 : Kt p w w') (h5 : Below B w w') : OnePost B w p kn fv gv F G d r e w' := by
  subst hr
  exact ⟨kv, he, h1, h2, h3, h4, h5⟩
end Go.Proofs.Ytpfgidhchjcomaa
