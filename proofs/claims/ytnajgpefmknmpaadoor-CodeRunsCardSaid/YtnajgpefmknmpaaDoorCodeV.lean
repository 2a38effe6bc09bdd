/- What Check does, in plain Lean: the parts, the places, the depths. -/
import Derived.Test.YtnajgpefmknmpaaDoorCodeT
namespace Go.Proofs.YtnajgpefmknmpaaDoor
open Go.RowKit
set_option linter.unusedVariables false
/-- a part -/
structure Pt where
  fr : Nat
  to_ : Nat
  deep : Int
  blk : Bool
deriving DecidableEq
/-- the checker -/
structure Ck where
  parts : List Pt
  of_ : Int → Option Int
  blocks : Int → Option Int
  depth : Int → Option Int
  most : Int
  e : Int
def upd (f : Int → Option Int) (z y : Int) : Int → Option Int := fun x => if x = z then some y else f x
theorem upd_same (f : Int → Option Int) (z y : Int) : upd f z y z = some y := if_pos rfl
theorem upd_other {f : Int → Option Int} {z x : Int} (y : Int) (h : x ≠ z) : upd f z y x = f x := if_neg h
/-- how many literals, slots and fields -/
structure Wd where
  lits : Int
  slots : Int
  fields : Int
def wrongE (e x : Int) : Int := if e = 0 ∨ x < e then x else e
def opsOk (W : Wd) (x : Ins) : Bool :=
  if x.op = 7 ∨ x.op = 12 ∨ x.op = 13 then decide (x.a < W.lits)
  else if x.op = 5 ∨ x.op = 8 then decide (x.a < W.slots)
  else if x.op = 6 ∨ x.op = 9 then decide (x.a < W.fields)
  else true
def jumpsB (x : Ins) : Bool := decide (x.op = 14) || decide (x.op = 15) || decide (x.op = 16)
def flowM (x : Ins) : Int × Int :=
  if x.op = 8 ∨ x.op = 9 then (1, 1)
  else if x.op = 10 ∨ x.op = 15 ∨ x.op = 16 ∨ x.op = 18 ∨ x.op = 19 then (1, 0)
  else if x.op = 11 then (1, 2)
  else if x.op = 12 ∨ x.op = 13 then (x.b + 1, 1)
  else if x.op = 14 then (0, 0)
  else (0, 1)
/-- an instruction that is right: what is written down of it, and where the next one is; none: the part ends here -/
def layStep (l : List UInt8) (W : Wd) (P : Pt) (n : Nat) (p : Nat) (gs : List Int) (c : Ck) : Option Nat × List Int × Ck :=
  let r := decI (l.take P.to_) p
  if r.2.2 ≠ 0 then (none, gs, { c with e := wrongE c.e r.2.2 })
  else
    let x := r.1
    let q := r.2.1.toNat
    let c1 : Ck := { c with of_ := upd c.of_ p n, e := if opsOk W x then c.e else wrongE c.e 3 }
    let gs1 := if jumpsB x then gs ++ [(q : Int) + x.a] else gs
    if x.op = 17 then
      if P.to_ < q + x.b.toNat then (none, gs1, { c1 with e := wrongE c1.e 4 })
      else (some (q + x.b.toNat), gs1, { c1 with blocks := upd c1.blocks p c1.parts.length, parts := c1.parts ++ [⟨q, q + x.b.toNat, x.a, true⟩] })
    else (some q, gs1, c1)
def layG (l : List UInt8) (W : Wd) (P : Pt) (n : Nat) : Nat → Nat → List Int → Ck → List Int × Ck
  | 0, _, gs, c => (gs, c)
  | f + 1, p, gs, c =>
    if P.to_ ≤ p then (gs, c)
    else match layStep l W P n p gs c with
      | (none, gs', c') => (gs', c')
      | (some q, gs', c') => layG l W P n f q gs' c'
/-- the jumps, looked at behind -/
def goalsE (o : Int → Option Int) (n : Nat) (gs : List Int) (e : Int) : Int := gs.foldl (fun e z => if o z = some (n : Int) then e else wrongE e 3) e
def layM (l : List UInt8) (W : Wd) (n : Nat) (c : Ck) : Ck :=
  let P := c.parts.getD n ⟨0, 0, 0, false⟩
  let r := layG l W P n (P.to_ - P.fr) P.fr [] c
  { r.2 with e := goalsE r.2.of_ n r.1 r.2.e }
/-- a goal -/
structure Gl where
  at_ : Int
  part : Int
  deep : Int
deriving DecidableEq
def stepM (l : List UInt8) (c : Ck) (p : Int) : Ck × List Gl :=
  let n := (c.of_ p).getD 0
  let r := decI l p
  let x := r.1
  let t := flowM x
  let d := (c.depth p).getD 0
  if d < t.1 ∨ (x.op = 19 ∧ (c.parts.getD n.toNat ⟨0, 0, 0, false⟩).blk = false) then ({ c with e := wrongE c.e 3 }, [])
  else
    let next := d - t.1 + t.2
    let g1 : List Gl := if jumpsB x then [⟨r.2.1 + x.a, n, next⟩] else []
    let g2 : List Gl := match c.blocks p with
      | some k => [⟨((c.parts.getD k.toNat ⟨0, 0, 0, false⟩).fr : Int), k, (c.parts.getD k.toNat ⟨0, 0, 0, false⟩).deep⟩]
      | none => []
    let q := match c.blocks p with
      | some _ => r.2.1 + x.b
      | none => r.2.1
    let g3 : List Gl := if x.op ≠ 14 ∧ x.op ≠ 18 ∧ x.op ≠ 19 then [⟨q, n, next⟩] else []
    ({ c with most := max c.most (max d next) }, g1 ++ g2 ++ g3)
/-- one round of the run: the last goal -/
def runStep (l : List UInt8) (c : Ck) (ws : List Gl) (g : Gl) : Ck × List Gl :=
  if c.of_ g.at_ = some g.part then
    match c.depth g.at_ with
    | some d => if d ≠ g.deep then ({ c with e := wrongE c.e 3 }, ws) else (c, ws)
    | none =>
      let r := stepM l { c with depth := upd c.depth g.at_ g.deep } g.at_
      (r.1, ws ++ r.2)
  else ({ c with e := wrongE c.e 3 }, ws)
def runG (l : List UInt8) : Nat → Ck → List Gl → Ck
  | 0, c, _ => c
  | f + 1, c, ws =>
    match ws.getLast? with
    | none => c
    | some g =>
      if c.e ≠ 0 then c
      else
        let r := runStep l c ws.dropLast g
        runG l f r.1 r.2
def runM (l : List UInt8) (f : Nat) (c : Ck) : Ck :=
  let c' := runG l f c [⟨0, 0, 0⟩]
  if c'.e = 0 ∧ 200 < c'.most then { c' with e := 2 } else c'
def partsG (l : List UInt8) (W : Wd) : Nat → Nat → Ck → Ck
  | 0, _, c => c
  | f + 1, n, c => if c.parts.length ≤ n then c else partsG l W f (n + 1) (layM l W n c)
def ck0 (l : List UInt8) : Ck := ⟨[⟨0, l.length, 0, false⟩], fun _ => none, fun _ => none, fun _ => none, 0, 0⟩
def checkC (l : List UInt8) (W : Wd) : Ck :=
  let c := partsG l W (l.length + 1) 0 (ck0 l)
  if c.e = 0 then runM l (4 * l.length + 4) c else c
def checkM (l : List UInt8) (W : Wd) : Int × Int :=
  let c := checkC l W
  if c.e ≠ 0 then (0, c.e) else (c.most, 0)
/-- the law's own bytes -/
theorem check_awake : checkM [4, 5, 18] ⟨0, 0, 0⟩ = (1, 0) := by rfl
end Go.Proofs.YtnajgpefmknmpaaDoor
