/- What a node may bear. The shape of a node: kinds that ask of one part alone. The shape of a sending. The shape of a block; of any node. Nodes whose first part is a hole. What holds of all nodes of a row. Statements: no return ahead of the last, no hole. The shape of any node; which kids a node may have. -/
import Derived.Test.YtpfgidhchjcomaaMeNode
namespace Go.Proofs.Ytpfgidhchjcomaa
open Go.RowKit
set_option linter.unusedVariables false
def bareB (n : Nd) (b1 b2 : Bool) (c : Int) (b4 : Bool) : Bool := (b1 || n.name.toList == []) && (b2 || decide (n.num = 0)) && (decide (c < 0) || decide ((n.kids.length : Int) = c)) && (b4 || decide (n.names.length = 0))
set_option maxRecDepth 100000 in
set_option maxHeartbeats 8000000 in
theorem bare_any (x : Nat → Prop) (d : Nat) (n : Nd) (kv nv : Value) (b1 b2 b4 : Bool) (c : Int) (w : World) (hk : NodesX x d w kv n.kids) (hs : StrsX x w nv n.names) :
    Calls Try.prog 62 #[ndV n kv nv, .bool b1, .bool b2, .int .i64 c, .bool b4] w fun e w' => e = .returned (.bool (bareB n b1 b2 c b4)) ∧ Below w.heap.size w w' := by
  obtain ⟨k, nm, nu, ks, ns, at_⟩ := n
  obtain ⟨ka, kc, rfl, -⟩ := NodesX.shape (show NodesX x d w kv ks from hk)
  obtain ⟨na, nc, rfl, -⟩ := (show StrsX x w nv ns from hs)
  clear hk hs
  have HR := Lib.hid (show bareB (.mk k nm nu ks ns at_) b1 b2 c b4 = ((b1 || nm.toList == []) && (b2 || decide (nu = 0)) && (decide (c < 0) || decide ((ks.length : Int) = c)) && (b4 || decide (ns.length = 0))) from rfl)
  rw [HR.out]
  clear HR
  show Calls Try.prog 62 #[.agg #[.int .i64 k, .string nm, .int .i64 nu, .slice ka ks.length kc, .slice na ns.length nc, .int .i64 at_], .bool b1, .bool b2, .int .i64 c, .bool b4] w _
  generalize ks.length = m at *
  generalize ns.length = q at *
  cases b1
  · by_cases hn : nm.toList = []
    · have en : (nm.toList == ([] : List UInt8)) = true := by simpa using hn
      cases b2
      · by_cases hu : nu = 0
        · subst hu
          by_cases hc : c < 0
          · have ec : decide (c < 0) = true := by simpa using hc
            cases b4
            · by_cases hq : q = 0
              · subst hq
                have HF := Lib.hid (show ((false || nm.toList == []) && (false || decide ((0:Int) = 0)) && (decide (c < 0) || decide ((m : Int) = c)) && (false || decide ((0:Nat) = 0))) = true by simp [hn, hc])
                rw [HF.out]
                go_enter Try.func62, Try.ntmps62
                go_wp2_with fail
                go_ret
                exact ⟨rfl, (Below.refl _ _).alloc (Nat.le_refl _) _⟩
              · have eq : ((q : Int) == 0) = false := by simpa using hq
                have HF := Lib.hid (show ((false || nm.toList == []) && (false || decide ((0:Int) = 0)) && (decide (c < 0) || decide ((m : Int) = c)) && (false || decide (q = 0))) = false by simp [hn, hc, hq])
                rw [HF.out]
                go_enter Try.func62, Try.ntmps62
                go_wp2_with fail
                go_ret
                exact ⟨rfl, (Below.refl _ _).alloc (Nat.le_refl _) _⟩
            · skip
              have HF := Lib.hid (show ((false || nm.toList == []) && (false || decide ((0:Int) = 0)) && (decide (c < 0) || decide ((m : Int) = c)) && (true || decide (q = 0))) = true by simp [hn, hc])
              rw [HF.out]
              go_enter Try.func62, Try.ntmps62
              go_wp2_with fail
              go_ret
              exact ⟨rfl, (Below.refl _ _).alloc (Nat.le_refl _) _⟩
          · have ec : decide (c < 0) = false := by simpa using hc
            by_cases hm : (m : Int) = c
            · have em : ((m : Int) == c) = true := by simpa using hm
              cases b4
              · by_cases hq : q = 0
                · subst hq
                  have HF := Lib.hid (show ((false || nm.toList == []) && (false || decide ((0:Int) = 0)) && (decide (c < 0) || decide ((m : Int) = c)) && (false || decide ((0:Nat) = 0))) = true by simp [hn, hm])
                  rw [HF.out]
                  go_enter Try.func62, Try.ntmps62
                  go_wp2_with fail
                  go_ret
                  exact ⟨rfl, (Below.refl _ _).alloc (Nat.le_refl _) _⟩
                · have eq : ((q : Int) == 0) = false := by simpa using hq
                  have HF := Lib.hid (show ((false || nm.toList == []) && (false || decide ((0:Int) = 0)) && (decide (c < 0) || decide ((m : Int) = c)) && (false || decide (q = 0))) = false by simp [hn, hm, hq])
                  rw [HF.out]
                  go_enter Try.func62, Try.ntmps62
                  go_wp2_with fail
                  go_ret
                  exact ⟨rfl, (Below.refl _ _).alloc (Nat.le_refl _) _⟩
              · skip
                have HF := Lib.hid (show ((false || nm.toList == []) && (false || decide ((0:Int) = 0)) && (decide (c < 0) || decide ((m : Int) = c)) && (true || decide (q = 0))) = true by simp [hn, hm])
                rw [HF.out]
                go_enter Try.func62, Try.ntmps62
                go_wp2_with fail
                go_ret
                exact ⟨rfl, (Below.refl _ _).alloc (Nat.le_refl _) _⟩
            · have em : ((m : Int) == c) = false := by simpa using hm
              have HF := Lib.hid (show ((false || nm.toList == []) && (false || decide ((0:Int) = 0)) && (decide (c < 0) || decide ((m : Int) = c)) && (b4 || decide (q = 0))) = false by simp [hn, hc, hm])
              rw [HF.out]
              go_enter Try.func62, Try.ntmps62
              go_wp2_with fail
              go_ret
              exact ⟨rfl, (Below.refl _ _).alloc (Nat.le_refl _) _⟩
        · have eu : (nu == 0) = false := by simpa using hu
          have HF := Lib.hid (show ((false || nm.toList == []) && (false || decide (nu = 0)) && (decide (c < 0) || decide ((m : Int) = c)) && (b4 || decide (q = 0))) = false by simp [hn, hu])
          rw [HF.out]
          go_enter Try.func62, Try.ntmps62
          go_wp2_with fail
          go_ret
          exact ⟨rfl, (Below.refl _ _).alloc (Nat.le_refl _) _⟩
      · skip
        by_cases hc : c < 0
        · have ec : decide (c < 0) = true := by simpa using hc
          cases b4
          · by_cases hq : q = 0
            · subst hq
              have HF := Lib.hid (show ((false || nm.toList == []) && (true || decide (nu = 0)) && (decide (c < 0) || decide ((m : Int) = c)) && (false || decide ((0:Nat) = 0))) = true by simp [hn, hc])
              rw [HF.out]
              go_enter Try.func62, Try.ntmps62
              go_wp2_with fail
              go_ret
              exact ⟨rfl, (Below.refl _ _).alloc (Nat.le_refl _) _⟩
            · have eq : ((q : Int) == 0) = false := by simpa using hq
              have HF := Lib.hid (show ((false || nm.toList == []) && (true || decide (nu = 0)) && (decide (c < 0) || decide ((m : Int) = c)) && (false || decide (q = 0))) = false by simp [hn, hc, hq])
              rw [HF.out]
              go_enter Try.func62, Try.ntmps62
              go_wp2_with fail
              go_ret
              exact ⟨rfl, (Below.refl _ _).alloc (Nat.le_refl _) _⟩
          · skip
            have HF := Lib.hid (show ((false || nm.toList == []) && (true || decide (nu = 0)) && (decide (c < 0) || decide ((m : Int) = c)) && (true || decide (q = 0))) = true by simp [hn, hc])
            rw [HF.out]
            go_enter Try.func62, Try.ntmps62
            go_wp2_with fail
            go_ret
            exact ⟨rfl, (Below.refl _ _).alloc (Nat.le_refl _) _⟩
        · have ec : decide (c < 0) = false := by simpa using hc
          by_cases hm : (m : Int) = c
          · have em : ((m : Int) == c) = true := by simpa using hm
            cases b4
            · by_cases hq : q = 0
              · subst hq
                have HF := Lib.hid (show ((false || nm.toList == []) && (true || decide (nu = 0)) && (decide (c < 0) || decide ((m : Int) = c)) && (false || decide ((0:Nat) = 0))) = true by simp [hn, hm])
                rw [HF.out]
                go_enter Try.func62, Try.ntmps62
                go_wp2_with fail
                go_ret
                exact ⟨rfl, (Below.refl _ _).alloc (Nat.le_refl _) _⟩
              · have eq : ((q : Int) == 0) = false := by simpa using hq
                have HF := Lib.hid (show ((false || nm.toList == []) && (true || decide (nu = 0)) && (decide (c < 0) || decide ((m : Int) = c)) && (false || decide (q = 0))) = false by simp [hn, hm, hq])
                rw [HF.out]
                go_enter Try.func62, Try.ntmps62
                go_wp2_with fail
                go_ret
                exact ⟨rfl, (Below.refl _ _).alloc (Nat.le_refl _) _⟩
            · skip
              have HF := Lib.hid (show ((false || nm.toList == []) && (true || decide (nu = 0)) && (decide (c < 0) || decide ((m : Int) = c)) && (true || decide (q = 0))) = true by simp [hn, hm])
              rw [HF.out]
              go_enter Try.func62, Try.ntmps62
              go_wp2_with fail
              go_ret
              exact ⟨rfl, (Below.refl _ _).alloc (Nat.le_refl _) _⟩
          · have em : ((m : Int) == c) = false := by simpa using hm
            have HF := Lib.hid (show ((false || nm.toList == []) && (true || decide (nu = 0)) && (decide (c < 0) || decide ((m : Int) = c)) && (b4 || decide (q = 0))) = false by simp [hn, hc, hm])
            rw [HF.out]
            go_enter Try.func62, Try.ntmps62
            go_wp2_with fail
            go_ret
            exact ⟨rfl, (Below.refl _ _).alloc (Nat.le_refl _) _⟩
    · have en : (nm.toList == ([] : List UInt8)) = false := by simpa using hn
      have HF := Lib.hid (show ((false || nm.toList == []) && (b2 || decide (nu = 0)) && (decide (c < 0) || decide ((m : Int) = c)) && (b4 || decide (q = 0))) = false by simp [hn])
      rw [HF.out]
      go_enter Try.func62, Try.ntmps62
      go_wp2_with fail
      go_ret
      exact ⟨rfl, (Below.refl _ _).alloc (Nat.le_refl _) _⟩
  · skip
    cases b2
    · by_cases hu : nu = 0
      · subst hu
        by_cases hc : c < 0
        · have ec : decide (c < 0) = true := by simpa using hc
          cases b4
          · by_cases hq : q = 0
            · subst hq
              have HF := Lib.hid (show ((true || nm.toList == []) && (false || decide ((0:Int) = 0)) && (decide (c < 0) || decide ((m : Int) = c)) && (false || decide ((0:Nat) = 0))) = true by simp [hc])
              rw [HF.out]
              go_enter Try.func62, Try.ntmps62
              go_wp2_with fail
              go_ret
              exact ⟨rfl, (Below.refl _ _).alloc (Nat.le_refl _) _⟩
            · have eq : ((q : Int) == 0) = false := by simpa using hq
              have HF := Lib.hid (show ((true || nm.toList == []) && (false || decide ((0:Int) = 0)) && (decide (c < 0) || decide ((m : Int) = c)) && (false || decide (q = 0))) = false by simp [hc, hq])
              rw [HF.out]
              go_enter Try.func62, Try.ntmps62
              go_wp2_with fail
              go_ret
              exact ⟨rfl, (Below.refl _ _).alloc (Nat.le_refl _) _⟩
          · skip
            have HF := Lib.hid (show ((true || nm.toList == []) && (false || decide ((0:Int) = 0)) && (decide (c < 0) || decide ((m : Int) = c)) && (true || decide (q = 0))) = true by simp [hc])
            rw [HF.out]
            go_enter Try.func62, Try.ntmps62
            go_wp2_with fail
            go_ret
            exact ⟨rfl, (Below.refl _ _).alloc (Nat.le_refl _) _⟩
        · have ec : decide (c < 0) = false := by simpa using hc
          by_cases hm : (m : Int) = c
          · have em : ((m : Int) == c) = true := by simpa using hm
            cases b4
            · by_cases hq : q = 0
              · subst hq
                have HF := Lib.hid (show ((true || nm.toList == []) && (false || decide ((0:Int) = 0)) && (decide (c < 0) || decide ((m : Int) = c)) && (false || decide ((0:Nat) = 0))) = true by simp [hm])
                rw [HF.out]
                go_enter Try.func62, Try.ntmps62
                go_wp2_with fail
                go_ret
                exact ⟨rfl, (Below.refl _ _).alloc (Nat.le_refl _) _⟩
              · have eq : ((q : Int) == 0) = false := by simpa using hq
                have HF := Lib.hid (show ((true || nm.toList == []) && (false || decide ((0:Int) = 0)) && (decide (c < 0) || decide ((m : Int) = c)) && (false || decide (q = 0))) = false by simp [hm, hq])
                rw [HF.out]
                go_enter Try.func62, Try.ntmps62
                go_wp2_with fail
                go_ret
                exact ⟨rfl, (Below.refl _ _).alloc (Nat.le_refl _) _⟩
            · skip
              have HF := Lib.hid (show ((true || nm.toList == []) && (false || decide ((0:Int) = 0)) && (decide (c < 0) || decide ((m : Int) = c)) && (true || decide (q = 0))) = true by simp [hm])
              rw [HF.out]
              go_enter Try.func62, Try.ntmps62
              go_wp2_with fail
              go_ret
              exact ⟨rfl, (Below.refl _ _).alloc (Nat.le_refl _) _⟩
          · have em : ((m : Int) == c) = false := by simpa using hm
            have HF := Lib.hid (show ((true || nm.toList == []) && (false || decide ((0:Int) = 0)) && (decide (c < 0) || decide ((m : Int) = c)) && (b4 || decide (q = 0))) = false by simp [hc, hm])
            rw [HF.out]
            go_enter Try.func62, Try.ntmps62
            go_wp2_with fail
            go_ret
            exact ⟨rfl, (Below.refl _ _).alloc (Nat.le_refl _) _⟩
      · have eu : (nu == 0) = false := by simpa using hu
        have HF := Lib.hid (show ((true || nm.toList == []) && (false || decide (nu = 0)) && (decide (c < 0) || decide ((m : Int) = c)) && (b4 || decide (q = 0))) = false by simp [hu])
        rw [HF.out]
        go_enter Try.func62, Try.ntmps62
        go_wp2_with fail
        go_ret
        exact ⟨rfl, (Below.refl _ _).alloc (Nat.le_refl _) _⟩
    · skip
      by_cases hc : c < 0
      · have ec : decide (c < 0) = true := by simpa using hc
        cases b4
        · by_cases hq : q = 0
          · subst hq
            have HF := Lib.hid (show ((true || nm.toList == []) && (true || decide (nu = 0)) && (decide (c < 0) || decide ((m : Int) = c)) && (false || decide ((0:Nat) = 0))) = true by simp [hc])
            rw [HF.out]
            go_enter Try.func62, Try.ntmps62
            go_wp2_with fail
            go_ret
            exact ⟨rfl, (Below.refl _ _).alloc (Nat.le_refl _) _⟩
          · have eq : ((q : Int) == 0) = false := by simpa using hq
            have HF := Lib.hid (show ((true || nm.toList == []) && (true || decide (nu = 0)) && (decide (c < 0) || decide ((m : Int) = c)) && (false || decide (q = 0))) = false by simp [hc, hq])
            rw [HF.out]
            go_enter Try.func62, Try.ntmps62
            go_wp2_with fail
            go_ret
            exact ⟨rfl, (Below.refl _ _).alloc (Nat.le_refl _) _⟩
        · skip
          have HF := Lib.hid (show ((true || nm.toList == []) && (true || decide (nu = 0)) && (decide (c < 0) || decide ((m : Int) = c)) && (true || decide (q = 0))) = true by simp [hc])
          rw [HF.out]
          go_enter Try.func62, Try.ntmps62
          go_wp2_with fail
          go_ret
          exact ⟨rfl, (Below.refl _ _).alloc (Nat.le_refl _) _⟩
      · have ec : decide (c < 0) = false := by simpa using hc
        by_cases hm : (m : Int) = c
        · have em : ((m : Int) == c) = true := by simpa using hm
          cases b4
          · by_cases hq : q = 0
            · subst hq
              have HF := Lib.hid (show ((true || nm.toList == []) && (true || decide (nu = 0)) && (decide (c < 0) || decide ((m : Int) = c)) && (false || decide ((0:Nat) = 0))) = true by simp [hm])
              rw [HF.out]
              go_enter Try.func62, Try.ntmps62
              go_wp2_with fail
              go_ret
              exact ⟨rfl, (Below.refl _ _).alloc (Nat.le_refl _) _⟩
            · have eq : ((q : Int) == 0) = false := by simpa using hq
              have HF := Lib.hid (show ((true || nm.toList == []) && (true || decide (nu = 0)) && (decide (c < 0) || decide ((m : Int) = c)) && (false || decide (q = 0))) = false by simp [hm, hq])
              rw [HF.out]
              go_enter Try.func62, Try.ntmps62
              go_wp2_with fail
              go_ret
              exact ⟨rfl, (Below.refl _ _).alloc (Nat.le_refl _) _⟩
          · skip
            have HF := Lib.hid (show ((true || nm.toList == []) && (true || decide (nu = 0)) && (decide (c < 0) || decide ((m : Int) = c)) && (true || decide (q = 0))) = true by simp [hm])
            rw [HF.out]
            go_enter Try.func62, Try.ntmps62
            go_wp2_with fail
            go_ret
            exact ⟨rfl, (Below.refl _ _).alloc (Nat.le_refl _) _⟩
        · have em : ((m : Int) == c) = false := by simpa using hm
          have HF := Lib.hid (show ((true || nm.toList == []) && (true || decide (nu = 0)) && (decide (c < 0) || decide ((m : Int) = c)) && (b4 || decide (q = 0))) = false by simp [hc, hm])
          rw [HF.out]
          go_enter Try.func62, Try.ntmps62
          go_wp2_with fail
          go_ret
          exact ⟨rfl, (Below.refl _ _).alloc (Nat.le_refl _) _⟩
end Go.Proofs.Ytpfgidhchjcomaa
namespace Go.Proofs.Ytpfgidhchjcomaa
open Go.RowKit
set_option linter.unusedVariables false
set_option maxRecDepth 100000 in
set_option maxHeartbeats 8000000 in
theorem shape1_any (x : Nat → Prop) (d : Nat) (n : Nd) (kv nv : Value) (w : World) (hk : NodesX x d w kv n.kids) (hs : StrsX x w nv n.names) (hn : n.kind = 1) :
    Calls Try.prog 36 #[ndV n kv nv] w fun e w' => e = .returned (.bool (bareB n false true (0) false)) ∧ Below w.heap.size w w' := by
  have BA := Lib.hid (fun b1 b2 c b4 W (hb : Below w.heap.size w W) => bare_any x d n kv nv b1 b2 b4 c W (hk.later hb) (hs.later hb))
  clear hk hs
  obtain ⟨k, nm, nu, ks, ns, at_⟩ := n
  obtain rfl : k = 1 := hn
  replace BA : Hid (∀ b1 b2 c b4 W, Below w.heap.size w W → Calls Try.prog 62 #[.agg #[.int .i64 1, .string nm, .int .i64 nu, kv, nv, .int .i64 at_], .bool b1, .bool b2, .int .i64 c, .bool b4] W fun e w' => e = .returned (.bool (bareB (.mk 1 nm nu ks ns at_) b1 b2 c b4)) ∧ Below W.heap.size W w') := BA
  show Calls Try.prog 36 #[.agg #[.int .i64 1, .string nm, .int .i64 nu, kv, nv, .int .i64 at_]] w _
  go_enter Try.func36, Try.ntmps36
  go_wp2_with fail
  refine (BA.out false true (0) false _ ((Below.refl _ _).alloc (Nat.le_refl _) _)).mono ?_
  rintro e w1 ⟨rfl, hb⟩
  have HB := Lib.hid (show Below w.heap.size w w1 from ((Below.refl _ _).alloc (Nat.le_refl _) _).trans (hb.mono (by simp)))
  clear hb
  go_wp2_with fail
  go_ret
  exact ⟨rfl, HB.out⟩
set_option maxRecDepth 100000 in
set_option maxHeartbeats 8000000 in
theorem shape2_any (x : Nat → Prop) (d : Nat) (n : Nd) (kv nv : Value) (w : World) (hk : NodesX x d w kv n.kids) (hs : StrsX x w nv n.names) (hn : n.kind = 2) :
    Calls Try.prog 36 #[ndV n kv nv] w fun e w' => e = .returned (.bool (bareB n true false (0) false)) ∧ Below w.heap.size w w' := by
  have BA := Lib.hid (fun b1 b2 c b4 W (hb : Below w.heap.size w W) => bare_any x d n kv nv b1 b2 b4 c W (hk.later hb) (hs.later hb))
  clear hk hs
  obtain ⟨k, nm, nu, ks, ns, at_⟩ := n
  obtain rfl : k = 2 := hn
  replace BA : Hid (∀ b1 b2 c b4 W, Below w.heap.size w W → Calls Try.prog 62 #[.agg #[.int .i64 2, .string nm, .int .i64 nu, kv, nv, .int .i64 at_], .bool b1, .bool b2, .int .i64 c, .bool b4] W fun e w' => e = .returned (.bool (bareB (.mk 2 nm nu ks ns at_) b1 b2 c b4)) ∧ Below W.heap.size W w') := BA
  show Calls Try.prog 36 #[.agg #[.int .i64 2, .string nm, .int .i64 nu, kv, nv, .int .i64 at_]] w _
  go_enter Try.func36, Try.ntmps36
  go_wp2_with fail
  refine (BA.out true false (0) false _ ((Below.refl _ _).alloc (Nat.le_refl _) _)).mono ?_
  rintro e w1 ⟨rfl, hb⟩
  have HB := Lib.hid (show Below w.heap.size w w1 from ((Below.refl _ _).alloc (Nat.le_refl _) _).trans (hb.mono (by simp)))
  clear hb
  go_wp2_with fail
  go_ret
  exact ⟨rfl, HB.out⟩
set_option maxRecDepth 100000 in
set_option maxHeartbeats 8000000 in
theorem shape3_any (x : Nat → Prop) (d : Nat) (n : Nd) (kv nv : Value) (w : World) (hk : NodesX x d w kv n.kids) (hs : StrsX x w nv n.names) (hn : n.kind = 3) :
    Calls Try.prog 36 #[ndV n kv nv] w fun e w' => e = .returned (.bool (bareB n true false (0) false)) ∧ Below w.heap.size w w' := by
  have BA := Lib.hid (fun b1 b2 c b4 W (hb : Below w.heap.size w W) => bare_any x d n kv nv b1 b2 b4 c W (hk.later hb) (hs.later hb))
  clear hk hs
  obtain ⟨k, nm, nu, ks, ns, at_⟩ := n
  obtain rfl : k = 3 := hn
  replace BA : Hid (∀ b1 b2 c b4 W, Below w.heap.size w W → Calls Try.prog 62 #[.agg #[.int .i64 3, .string nm, .int .i64 nu, kv, nv, .int .i64 at_], .bool b1, .bool b2, .int .i64 c, .bool b4] W fun e w' => e = .returned (.bool (bareB (.mk 3 nm nu ks ns at_) b1 b2 c b4)) ∧ Below W.heap.size W w') := BA
  show Calls Try.prog 36 #[.agg #[.int .i64 3, .string nm, .int .i64 nu, kv, nv, .int .i64 at_]] w _
  go_enter Try.func36, Try.ntmps36
  go_wp2_with fail
  refine (BA.out true false (0) false _ ((Below.refl _ _).alloc (Nat.le_refl _) _)).mono ?_
  rintro e w1 ⟨rfl, hb⟩
  have HB := Lib.hid (show Below w.heap.size w w1 from ((Below.refl _ _).alloc (Nat.le_refl _) _).trans (hb.mono (by simp)))
  clear hb
  go_wp2_with fail
  go_ret
  exact ⟨rfl, HB.out⟩
set_option maxRecDepth 100000 in
set_option maxHeartbeats 8000000 in
theorem shape4_any (x : Nat → Prop) (d : Nat) (n : Nd) (kv nv : Value) (w : World) (hk : NodesX x d w kv n.kids) (hs : StrsX x w nv n.names) (hn : n.kind = 4) :
    Calls Try.prog 36 #[ndV n kv nv] w fun e w' => e = .returned (.bool (bareB n false false (-1) false)) ∧ Below w.heap.size w w' := by
  have BA := Lib.hid (fun b1 b2 c b4 W (hb : Below w.heap.size w W) => bare_any x d n kv nv b1 b2 b4 c W (hk.later hb) (hs.later hb))
  clear hk hs
  obtain ⟨k, nm, nu, ks, ns, at_⟩ := n
  obtain rfl : k = 4 := hn
  replace BA : Hid (∀ b1 b2 c b4 W, Below w.heap.size w W → Calls Try.prog 62 #[.agg #[.int .i64 4, .string nm, .int .i64 nu, kv, nv, .int .i64 at_], .bool b1, .bool b2, .int .i64 c, .bool b4] W fun e w' => e = .returned (.bool (bareB (.mk 4 nm nu ks ns at_) b1 b2 c b4)) ∧ Below W.heap.size W w') := BA
  show Calls Try.prog 36 #[.agg #[.int .i64 4, .string nm, .int .i64 nu, kv, nv, .int .i64 at_]] w _
  go_enter Try.func36, Try.ntmps36
  go_wp2_with fail
  refine (BA.out false false (-1) false _ ((Below.refl _ _).alloc (Nat.le_refl _) _)).mono ?_
  rintro e w1 ⟨rfl, hb⟩
  have HB := Lib.hid (show Below w.heap.size w w1 from ((Below.refl _ _).alloc (Nat.le_refl _) _).trans (hb.mono (by simp)))
  clear hb
  go_wp2_with fail
  go_ret
  exact ⟨rfl, HB.out⟩
set_option maxRecDepth 100000 in
set_option maxHeartbeats 8000000 in
theorem shape10_any (x : Nat → Prop) (d : Nat) (n : Nd) (kv nv : Value) (w : World) (hk : NodesX x d w kv n.kids) (hs : StrsX x w nv n.names) (hn : n.kind = 10) :
    Calls Try.prog 36 #[ndV n kv nv] w fun e w' => e = .returned (.bool (bareB n false false (1) false)) ∧ Below w.heap.size w w' := by
  have BA := Lib.hid (fun b1 b2 c b4 W (hb : Below w.heap.size w W) => bare_any x d n kv nv b1 b2 b4 c W (hk.later hb) (hs.later hb))
  clear hk hs
  obtain ⟨k, nm, nu, ks, ns, at_⟩ := n
  obtain rfl : k = 10 := hn
  replace BA : Hid (∀ b1 b2 c b4 W, Below w.heap.size w W → Calls Try.prog 62 #[.agg #[.int .i64 10, .string nm, .int .i64 nu, kv, nv, .int .i64 at_], .bool b1, .bool b2, .int .i64 c, .bool b4] W fun e w' => e = .returned (.bool (bareB (.mk 10 nm nu ks ns at_) b1 b2 c b4)) ∧ Below W.heap.size W w') := BA
  show Calls Try.prog 36 #[.agg #[.int .i64 10, .string nm, .int .i64 nu, kv, nv, .int .i64 at_]] w _
  go_enter Try.func36, Try.ntmps36
  go_wp2_with fail
  refine (BA.out false false (1) false _ ((Below.refl _ _).alloc (Nat.le_refl _) _)).mono ?_
  rintro e w1 ⟨rfl, hb⟩
  have HB := Lib.hid (show Below w.heap.size w w1 from ((Below.refl _ _).alloc (Nat.le_refl _) _).trans (hb.mono (by simp)))
  clear hb
  go_wp2_with fail
  go_ret
  exact ⟨rfl, HB.out⟩
set_option maxRecDepth 100000 in
set_option maxHeartbeats 8000000 in
theorem shape11_any (x : Nat → Prop) (d : Nat) (n : Nd) (kv nv : Value) (w : World) (hk : NodesX x d w kv n.kids) (hs : StrsX x w nv n.names) (hn : n.kind = 11) :
    Calls Try.prog 36 #[ndV n kv nv] w fun e w' => e = .returned (.bool (bareB n false false (0) false)) ∧ Below w.heap.size w w' := by
  have BA := Lib.hid (fun b1 b2 c b4 W (hb : Below w.heap.size w W) => bare_any x d n kv nv b1 b2 b4 c W (hk.later hb) (hs.later hb))
  clear hk hs
  obtain ⟨k, nm, nu, ks, ns, at_⟩ := n
  obtain rfl : k = 11 := hn
  replace BA : Hid (∀ b1 b2 c b4 W, Below w.heap.size w W → Calls Try.prog 62 #[.agg #[.int .i64 11, .string nm, .int .i64 nu, kv, nv, .int .i64 at_], .bool b1, .bool b2, .int .i64 c, .bool b4] W fun e w' => e = .returned (.bool (bareB (.mk 11 nm nu ks ns at_) b1 b2 c b4)) ∧ Below W.heap.size W w') := BA
  show Calls Try.prog 36 #[.agg #[.int .i64 11, .string nm, .int .i64 nu, kv, nv, .int .i64 at_]] w _
  go_enter Try.func36, Try.ntmps36
  go_wp2_with fail
  refine (BA.out false false (0) false _ ((Below.refl _ _).alloc (Nat.le_refl _) _)).mono ?_
  rintro e w1 ⟨rfl, hb⟩
  have HB := Lib.hid (show Below w.heap.size w w1 from ((Below.refl _ _).alloc (Nat.le_refl _) _).trans (hb.mono (by simp)))
  clear hb
  go_wp2_with fail
  go_ret
  exact ⟨rfl, HB.out⟩
set_option maxRecDepth 100000 in
set_option maxHeartbeats 8000000 in
theorem shape_else (n : Nd) (kv nv : Value) (w : World) (hn : ¬ (1 ≤ n.kind ∧ n.kind ≤ 11)) :
    Calls Try.prog 36 #[ndV n kv nv] w fun e w' => e = .returned (.bool false) ∧ Below w.heap.size w w' := by
  obtain ⟨k, nm, nu, ks, ns, at_⟩ := n
  show Calls Try.prog 36 #[.agg #[.int .i64 k, .string nm, .int .i64 nu, kv, nv, .int .i64 at_]] w _
  replace hn : ¬ (1 ≤ k ∧ k ≤ 11) := hn
  have e1 : (k == 1) = false := by simp; omega
  have e2 : (k == 2) = false := by simp; omega
  have e3 : (k == 3) = false := by simp; omega
  have e4 : (k == 4) = false := by simp; omega
  have e5 : (k == 5) = false := by simp; omega
  have e6 : (k == 6) = false := by simp; omega
  have e7 : (k == 7) = false := by simp; omega
  have e8 : (k == 8) = false := by simp; omega
  have e9 : (k == 9) = false := by simp; omega
  have e10 : (k == 10) = false := by simp; omega
  have e11 : (k == 11) = false := by simp; omega
  clear hn
  go_enter Try.func36, Try.ntmps36
  go_wp2_with fail
  go_ret
  exact ⟨rfl, (Below.refl _ _).alloc (Nat.le_refl _) _⟩
set_option maxRecDepth 100000 in
set_option maxHeartbeats 8000000 in
theorem shape5_any (x : Nat → Prop) (d : Nat) (n : Nd) (kv nv : Value) (w : World) (hk : NodesX x d w kv n.kids) (hs : StrsX x w nv n.names) (hn : n.kind = 5) :
    Calls Try.prog 36 #[ndV n kv nv] w fun e w' => e = .returned (.bool (bareB n true false (0) false && nameB n.name)) ∧ Below w.heap.size w w' := by
  have BA := Lib.hid (fun b1 b2 c b4 W (hb : Below w.heap.size w W) => bare_any x d n kv nv b1 b2 b4 c W (hk.later hb) (hs.later hb))
  clear hk hs
  obtain ⟨k, nm, nu, ks, ns, at_⟩ := n
  obtain rfl : k = 5 := hn
  replace BA : Hid (∀ b1 b2 c b4 W, Below w.heap.size w W → Calls Try.prog 62 #[.agg #[.int .i64 5, .string nm, .int .i64 nu, kv, nv, .int .i64 at_], .bool b1, .bool b2, .int .i64 c, .bool b4] W fun e w' => e = .returned (.bool (bareB (.mk 5 nm nu ks ns at_) b1 b2 c b4)) ∧ Below W.heap.size W w') := BA
  have NB := Lib.hid (fun W => tname_any nm W)
  show Calls Try.prog 36 #[.agg #[.int .i64 5, .string nm, .int .i64 nu, kv, nv, .int .i64 at_]] w fun e w' => e = .returned (.bool (bareB (.mk 5 nm nu ks ns at_) true false (0) false && nameB nm)) ∧ Below w.heap.size w w'
  have BX := Lib.hid (fun W hb => BA.out true false (0) false W hb)
  clear BA
  generalize bareB (.mk 5 nm nu ks ns at_) true false (0) false = r at *
  generalize nameB nm = t at *
  cases r
  · go_enter Try.func36, Try.ntmps36
    go_wp2_with fail
    refine (BX.out _ ((Below.refl _ _).alloc (Nat.le_refl _) _)).mono ?_
    rintro e w1 ⟨rfl, hb⟩
    have cN : w1.cell? ⟨w.heap.size, 1, none⟩ = some (.string nm) := (hb.cell (p := ⟨w.heap.size, 1, none⟩) (by simp)).trans (by simp)
    have HB := Lib.hid (show Below w.heap.size w w1 from ((Below.refl _ _).alloc (Nat.le_refl _) _).trans (hb.mono (by simp)))
    clear hb
    go_wp2_with fail
    go_ret
    exact ⟨rfl, HB.out⟩
  · go_enter Try.func36, Try.ntmps36
    go_wp2_with fail
    refine (BX.out _ ((Below.refl _ _).alloc (Nat.le_refl _) _)).mono ?_
    rintro e w1 ⟨rfl, hb⟩
    have cN : w1.cell? ⟨w.heap.size, 1, none⟩ = some (.string nm) := (hb.cell (p := ⟨w.heap.size, 1, none⟩) (by simp)).trans (by simp)
    have HB := Lib.hid (show Below w.heap.size w w1 from ((Below.refl _ _).alloc (Nat.le_refl _) _).trans (hb.mono (by simp)))
    clear hb
    go_wp2_with fail
    refine (NB.out _).mono ?_
    rintro e w2 ⟨rfl, hb⟩
    have HB2 := Lib.hid (HB.out.trans (hb.mono HB.out.size))
    clear hb
    go_wp2_with fail
    go_ret
    exact ⟨rfl, HB2.out⟩
set_option maxRecDepth 100000 in
set_option maxHeartbeats 8000000 in
theorem shape6_any (x : Nat → Prop) (d : Nat) (n : Nd) (kv nv : Value) (w : World) (hk : NodesX x d w kv n.kids) (hs : StrsX x w nv n.names) (hn : n.kind = 6) :
    Calls Try.prog 36 #[ndV n kv nv] w fun e w' => e = .returned (.bool (bareB n true false (1) false && nameB n.name)) ∧ Below w.heap.size w w' := by
  have BA := Lib.hid (fun b1 b2 c b4 W (hb : Below w.heap.size w W) => bare_any x d n kv nv b1 b2 b4 c W (hk.later hb) (hs.later hb))
  clear hk hs
  obtain ⟨k, nm, nu, ks, ns, at_⟩ := n
  obtain rfl : k = 6 := hn
  replace BA : Hid (∀ b1 b2 c b4 W, Below w.heap.size w W → Calls Try.prog 62 #[.agg #[.int .i64 6, .string nm, .int .i64 nu, kv, nv, .int .i64 at_], .bool b1, .bool b2, .int .i64 c, .bool b4] W fun e w' => e = .returned (.bool (bareB (.mk 6 nm nu ks ns at_) b1 b2 c b4)) ∧ Below W.heap.size W w') := BA
  have NB := Lib.hid (fun W => tname_any nm W)
  show Calls Try.prog 36 #[.agg #[.int .i64 6, .string nm, .int .i64 nu, kv, nv, .int .i64 at_]] w fun e w' => e = .returned (.bool (bareB (.mk 6 nm nu ks ns at_) true false (1) false && nameB nm)) ∧ Below w.heap.size w w'
  have BX := Lib.hid (fun W hb => BA.out true false (1) false W hb)
  clear BA
  generalize bareB (.mk 6 nm nu ks ns at_) true false (1) false = r at *
  generalize nameB nm = t at *
  cases r
  · go_enter Try.func36, Try.ntmps36
    go_wp2_with fail
    refine (BX.out _ ((Below.refl _ _).alloc (Nat.le_refl _) _)).mono ?_
    rintro e w1 ⟨rfl, hb⟩
    have cN : w1.cell? ⟨w.heap.size, 1, none⟩ = some (.string nm) := (hb.cell (p := ⟨w.heap.size, 1, none⟩) (by simp)).trans (by simp)
    have HB := Lib.hid (show Below w.heap.size w w1 from ((Below.refl _ _).alloc (Nat.le_refl _) _).trans (hb.mono (by simp)))
    clear hb
    go_wp2_with fail
    go_ret
    exact ⟨rfl, HB.out⟩
  · go_enter Try.func36, Try.ntmps36
    go_wp2_with fail
    refine (BX.out _ ((Below.refl _ _).alloc (Nat.le_refl _) _)).mono ?_
    rintro e w1 ⟨rfl, hb⟩
    have cN : w1.cell? ⟨w.heap.size, 1, none⟩ = some (.string nm) := (hb.cell (p := ⟨w.heap.size, 1, none⟩) (by simp)).trans (by simp)
    have HB := Lib.hid (show Below w.heap.size w w1 from ((Below.refl _ _).alloc (Nat.le_refl _) _).trans (hb.mono (by simp)))
    clear hb
    go_wp2_with fail
    refine (NB.out _).mono ?_
    rintro e w2 ⟨rfl, hb⟩
    have HB2 := Lib.hid (HB.out.trans (hb.mono HB.out.size))
    clear hb
    go_wp2_with fail
    go_ret
    exact ⟨rfl, HB2.out⟩
set_option maxRecDepth 100000 in
set_option maxHeartbeats 8000000 in
theorem shape8_any (x : Nat → Prop) (d : Nat) (n : Nd) (kv nv : Value) (w : World) (hk : NodesX x d w kv n.kids) (hs : StrsX x w nv n.names) (hn : n.kind = 8) :
    Calls Try.prog 36 #[ndV n kv nv] w fun e w' => e = .returned (.bool (bareB n false false (-1) false && decide (2 ≤ n.kids.length))) ∧ Below w.heap.size w w' := by
  have BA := Lib.hid (fun b1 b2 c b4 W (hb : Below w.heap.size w W) => bare_any x d n kv nv b1 b2 b4 c W (hk.later hb) (hs.later hb))
  obtain ⟨ka, kc, rfl, -⟩ := hk.shape
  clear hk hs
  obtain ⟨k, nm, nu, ks, ns, at_⟩ := n
  obtain rfl : k = 8 := hn
  replace BA : Hid (∀ b1 b2 c b4 W, Below w.heap.size w W → Calls Try.prog 62 #[.agg #[.int .i64 8, .string nm, .int .i64 nu, .slice ka ks.length kc, nv, .int .i64 at_], .bool b1, .bool b2, .int .i64 c, .bool b4] W fun e w' => e = .returned (.bool (bareB (.mk 8 nm nu ks ns at_) b1 b2 c b4)) ∧ Below W.heap.size W w') := BA
  show Calls Try.prog 36 #[.agg #[.int .i64 8, .string nm, .int .i64 nu, .slice ka ks.length kc, nv, .int .i64 at_]] w fun e w' => e = .returned (.bool (bareB (.mk 8 nm nu ks ns at_) false false (-1) false && decide (2 ≤ ks.length))) ∧ Below w.heap.size w w'
  have BX := Lib.hid (fun W hb => BA.out false false (-1) false W hb)
  clear BA
  generalize bareB (.mk 8 nm nu ks ns at_) false false (-1) false = r at *
  generalize ks.length = m at *
  cases r
  · go_enter Try.func36, Try.ntmps36
    go_wp2_with fail
    refine (BX.out _ ((Below.refl _ _).alloc (Nat.le_refl _) _)).mono ?_
    rintro e w1 ⟨rfl, hb⟩
    have cN : w1.cell? ⟨w.heap.size, 3, none⟩ = some (.slice ka m kc) := (hb.cell (p := ⟨w.heap.size, 3, none⟩) (by simp)).trans (by simp)
    have HB := Lib.hid (show Below w.heap.size w w1 from ((Below.refl _ _).alloc (Nat.le_refl _) _).trans (hb.mono (by simp)))
    clear hb
    go_wp2_with fail
    go_ret
    exact ⟨rfl, HB.out⟩
  · go_enter Try.func36, Try.ntmps36
    go_wp2_with fail
    refine (BX.out _ ((Below.refl _ _).alloc (Nat.le_refl _) _)).mono ?_
    rintro e w1 ⟨rfl, hb⟩
    have cN : w1.cell? ⟨w.heap.size, 3, none⟩ = some (.slice ka m kc) := (hb.cell (p := ⟨w.heap.size, 3, none⟩) (by simp)).trans (by simp)
    have HB := Lib.hid (show Below w.heap.size w w1 from ((Below.refl _ _).alloc (Nat.le_refl _) _).trans (hb.mono (by simp)))
    clear hb
    go_wp2_with fail
    go_ret
    exact ⟨ret_bool (by simp; omega), HB.out⟩
end Go.Proofs.Ytpfgidhchjcomaa
namespace Go.Proofs.Ytpfgidhchjcomaa
open Go.RowKit
set_option linter.unusedVariables false
theorem arM_bounds (s : ByteArray) : -1 ≤ arM s ∧ arM s ≤ 64 := by
  unfold arM
  split
  · omega
  · rename_i h
    have h1 : Lib.countByte s.data.toList 58 ≤ s.data.toList.length := List.count_le_length
    have h2 : s.data.toList.length = s.size := by simp
    split
    · omega
    · split
      · omega
      · split <;> omega
set_option maxRecDepth 100000 in
set_option maxHeartbeats 8000000 in
theorem shape7_any (x : Nat → Prop) (d : Nat) (n : Nd) (kv nv : Value) (w : World) (hk : NodesX x d w kv n.kids) (hs : StrsX x w nv n.names) (hn : n.kind = 7) :
    Calls Try.prog 36 #[ndV n kv nv] w fun e w' => e = .returned (.bool (bareB n true false (1 + arM n.name) false && decide (0 ≤ arM n.name))) ∧ Below w.heap.size w w' := by
  have BA := Lib.hid (fun b1 b2 c b4 W (hb : Below w.heap.size w W) => bare_any x d n kv nv b1 b2 b4 c W (hk.later hb) (hs.later hb))
  clear hk hs
  obtain ⟨k, nm, nu, ks, ns, at_⟩ := n
  obtain rfl : k = 7 := hn
  show Calls Try.prog 36 #[.agg #[.int .i64 7, .string nm, .int .i64 nu, kv, nv, .int .i64 at_]] w fun e w' => e = .returned (.bool (bareB (.mk 7 nm nu ks ns at_) true false (1 + arM nm) false && decide (0 ≤ arM nm))) ∧ Below w.heap.size w w'
  have hb0 : Below w.heap.size w (w.alloc (.cells #[.int .i64 7, .string nm, .int .i64 nu, kv, nv, .int .i64 at_] 30 (0, 0))) := (Below.refl _ _).alloc (Nat.le_refl _) _
  have BX := Lib.hid (show ∀ W, Below (w.alloc (.cells #[.int .i64 7, .string nm, .int .i64 nu, kv, nv, .int .i64 at_] 30 (0, 0))).heap.size (w.alloc (.cells #[.int .i64 7, .string nm, .int .i64 nu, kv, nv, .int .i64 at_] 30 (0, 0))) W → Calls Try.prog 62 #[.agg #[.int .i64 7, .string nm, .int .i64 nu, kv, nv, .int .i64 at_], .bool true, .bool false, .int .i64 (1 + arM nm), .bool false] W fun e w' => e = .returned (.bool (bareB (.mk 7 nm nu ks ns at_) true false (1 + arM nm) false)) ∧ Below W.heap.size W w' from fun W hb => BA.out true false _ false W (hb0.trans (hb.mono (by simp))))
  have AR := Lib.hid (fun W => arity_any nm W)
  have ⟨a1, a2⟩ := arM_bounds nm
  clear BA hb0
  generalize bareB (.mk 7 nm nu ks ns at_) true false (1 + arM nm) false = r at *
  generalize arM nm = t at *
  cases r
  · go_enter Try.func36, Try.ntmps36
    go_wp2_with fail
    (refine wp_region_later (by kernel_rfl) (by kernel_rfl) ?_; (repeat (go_big_quiet_step ((first | (go_at_call 20; exact calls_later AR.out) | (go_at_call 62; exact calls_later_if BX.out))))); refine wpQuiet_nil ?_; intro w4 hw4; have hg := later_elim hw4; clear hw4)
    have HG := Lib.hid (show Below w.heap.size w w4 from ((Below.refl _ _).alloc (Nat.le_refl _) _).trans (hg.mono (by simp)))
    clear hg
    go_wp2_with fail
    go_ret
    exact ⟨rfl, HG.out⟩
  · go_enter Try.func36, Try.ntmps36
    go_wp2_with fail
    (refine wp_region_later (by kernel_rfl) (by kernel_rfl) ?_; (repeat (go_big_quiet_step ((first | (go_at_call 20; exact calls_later AR.out) | (go_at_call 62; exact calls_later_if BX.out))))); refine wpQuiet_nil ?_; intro w4 hw4; have hg := later_elim hw4; clear hw4)
    have HG := Lib.hid (show Below w.heap.size w w4 from ((Below.refl _ _).alloc (Nat.le_refl _) _).trans (hg.mono (by simp)))
    clear hg
    go_wp2_with fail
    go_ret
    exact ⟨rfl, HG.out⟩
end Go.Proofs.Ytpfgidhchjcomaa
namespace Go.Proofs.Ytpfgidhchjcomaa
open Go.RowKit
set_option linter.unusedVariables false
def allNm (l : List ByteArray) : Bool := !(l.any fun s => !nameB s)
set_option maxRecDepth 100000 in
set_option maxHeartbeats 8000000 in
theorem shape9_any (x : Nat → Prop) (d : Nat) (n : Nd) (kv nv : Value) (w : World) (hk : NodesX x d w kv n.kids) (hs : StrsX x w nv n.names) (hn : n.kind = 9) :
    Calls Try.prog 36 #[ndV n kv nv] w fun e w' => e = .returned (.bool (bareB n false true (-1) true && decide (0 ≤ n.num) && decide (n.num ≤ n.names.length) && allNm n.names)) ∧ Below w.heap.size w w' := by
  have BA := Lib.hid (fun b1 b2 c b4 W (hb : Below w.heap.size w W) => bare_any x d n kv nv b1 b2 b4 c W (hk.later hb) (hs.later hb))
  have CA := Lib.hid (fun W (hb : Below w.heap.size w W) => containsS_any _ (Or.inr rfl) x nv n.names W (hs.later hb))
  obtain ⟨k, nm, nu, ks, ns, at_⟩ := n
  obtain ⟨na, nc, rfl, hz, hm, -⟩ := (show StrsX x w nv ns from hs)
  clear hk hs
  obtain rfl : k = 9 := hn
  show Calls Try.prog 36 #[.agg #[.int .i64 9, .string nm, .int .i64 nu, kv, .slice na ns.length nc, .int .i64 at_]] w fun e w' => e = .returned (.bool (bareB (.mk 9 nm nu ks ns at_) false true (-1) true && decide (0 ≤ nu) && decide (nu ≤ ns.length) && !(ns.any fun s => !nameB s))) ∧ Below w.heap.size w w'
  have BX := Lib.hid (show ∀ W, Below w.heap.size w W → Calls Try.prog 62 #[.agg #[.int .i64 9, .string nm, .int .i64 nu, kv, .slice na ns.length nc, .int .i64 at_], .bool false, .bool true, .int .i64 (-1), .bool true] W fun e w' => e = .returned (.bool (bareB (.mk 9 nm nu ks ns at_) false true (-1) true)) ∧ Below W.heap.size W w' from fun W hb => BA.out false true (-1) true W hb)
  have CX := Lib.hid (show ∀ W, Below w.heap.size w W → Calls Try.prog 21 #[.slice na ns.length nc, .func (.func 63) #[] #[]] W fun e w' => e = .returned (.bool (ns.any fun s => !nameB s)) ∧ Below W.heap.size W w' from fun W hb => CA.out W hb)
  clear BA CA
  generalize bareB (.mk 9 nm nu ks ns at_) false true (-1) true = r at *
  generalize (ns.any fun s => !nameB s) = t at *
  generalize ns.length = m at *
  have hb0 := Lib.hid (show ∀ W, Below (w.alloc (.cells #[.int .i64 9, .string nm, .int .i64 nu, kv, .slice na m nc, .int .i64 at_] 30 (0, 0))).heap.size (w.alloc (.cells #[.int .i64 9, .string nm, .int .i64 nu, kv, .slice na m nc, .int .i64 at_] 30 (0, 0))) W → W.cell? ⟨w.heap.size, 2, none⟩ = some (.int .i64 nu) ∧ W.cell? ⟨w.heap.size, 4, none⟩ = some (.slice na m nc) from fun W hb => ⟨(hb.cell (p := ⟨w.heap.size, 2, none⟩) (by simp)).trans (by simp), (hb.cell (p := ⟨w.heap.size, 4, none⟩) (by simp)).trans (by simp)⟩)
  cases r
  · go_enter Try.func36, Try.ntmps36
    go_wp2_with fail
    refine (BX.out _ ((Below.refl _ _).alloc (Nat.le_refl _) _)).mono ?_
    rintro e w1 ⟨rfl, hb⟩
    have HB := Lib.hid (show Below w.heap.size w w1 from ((Below.refl _ _).alloc (Nat.le_refl _) _).trans (hb.mono (by simp)))
    clear hb
    go_wp2_with fail
    go_ret
    exact ⟨rfl, HB.out⟩
  · by_cases h1 : 0 ≤ nu
    · by_cases h2 : nu ≤ m
      · have HF := Lib.hid (show (true && decide (0 ≤ nu) && decide (nu ≤ (m : Int)) && !t) = !t by simp [h1, h2])
        rw [HF.out]
        go_enter Try.func36, Try.ntmps36
        go_wp2_with fail
        refine (BX.out _ ((Below.refl _ _).alloc (Nat.le_refl _) _)).mono ?_
        rintro e w1 ⟨rfl, hb⟩
        obtain ⟨c2, c4⟩ := hb0.out _ hb
        have HB := Lib.hid (show Below w.heap.size w w1 from ((Below.refl _ _).alloc (Nat.le_refl _) _).trans (hb.mono (by simp)))
        clear hb
        go_wp2_with fail
        refine (CX.out _ HB.out).mono ?_
        rintro e w2 ⟨rfl, hb⟩
        have HB2 := Lib.hid (HB.out.trans (hb.mono HB.out.size))
        clear hb
        go_wp2_with fail
        go_ret
        exact ⟨rfl, HB2.out⟩
      · have HF := Lib.hid (show (true && decide (0 ≤ nu) && decide (nu ≤ (m : Int)) && !t) = false by simp [h2])
        rw [HF.out]
        go_enter Try.func36, Try.ntmps36
        go_wp2_with fail
        refine (BX.out _ ((Below.refl _ _).alloc (Nat.le_refl _) _)).mono ?_
        rintro e w1 ⟨rfl, hb⟩
        obtain ⟨c2, c4⟩ := hb0.out _ hb
        have HB := Lib.hid (show Below w.heap.size w w1 from ((Below.refl _ _).alloc (Nat.le_refl _) _).trans (hb.mono (by simp)))
        clear hb
        go_wp2_with fail
        go_ret
        exact ⟨rfl, HB.out⟩
    · have HF := Lib.hid (show (true && decide (0 ≤ nu) && decide (nu ≤ (m : Int)) && !t) = false by simp [h1])
      rw [HF.out]
      go_enter Try.func36, Try.ntmps36
      go_wp2_with fail
      refine (BX.out _ ((Below.refl _ _).alloc (Nat.le_refl _) _)).mono ?_
      rintro e w1 ⟨rfl, hb⟩
      obtain ⟨c2, c4⟩ := hb0.out _ hb
      have HB := Lib.hid (show Below w.heap.size w w1 from ((Below.refl _ _).alloc (Nat.le_refl _) _).trans (hb.mono (by simp)))
      clear hb
      go_wp2_with fail
      go_ret
      exact ⟨rfl, HB.out⟩
end Go.Proofs.Ytpfgidhchjcomaa
namespace Go.Proofs.Ytpfgidhchjcomaa
open Go.RowKit
set_option linter.unusedVariables false
def kind0 (n : Nd) : Option Int := n.kids.head?.map Nd.kind
def holB (n : Nd) : Bool := decide (n.kind = 7) && (kind0 n == some 11)
set_option maxRecDepth 100000 in
theorem holed_any (x : Nat → Prop) (d : Nat) (n : Nd) (kv nv : Value) (w : World) (hk : NodesX x d w kv n.kids) :
    Calls Try.prog 38 #[ndV n kv nv] w fun e w' => e = .returned (.bool (holB n)) ∧ Below w.heap.size w w' := by
  obtain ⟨k, nm, nu, ks, ns, at_⟩ := n
  show Calls Try.prog 38 #[.agg #[.int .i64 k, .string nm, .int .i64 nu, kv, nv, .int .i64 at_]] w fun e w' => e = .returned (.bool (decide (k = 7) && (ks.head?.map Nd.kind == some 11))) ∧ Below w.heap.size w w'
  replace hk : NodesX x d w kv ks := hk
  by_cases h7 : k = 7
  · subst h7
    cases ks with
    | nil =>
      obtain ⟨a, c, rfl, -⟩ := hk.shape
      go_enter Try.func38, Try.ntmps38
      go_wp2_with fail
      go_ret
      exact ⟨rfl, (Below.refl _ _).alloc (Nat.le_refl _) _⟩
    | cons y l =>
      cases d with
      | zero => exact absurd hk.1 (by simp)
      | succ d =>
        obtain ⟨a, c, rfl, -, -, -, hi⟩ := hk
        obtain ⟨b, o, kv', nv', rfl, -, hc, -⟩ := hi 0 y rfl
        have c0 : w.cell? ⟨b, o, none⟩ = some (.int .i64 y.kind) := by
          have := hc 0 (by omega)
          simpa [ndC] using this
        have hlt := lt_of_cell c0
        clear hi hc
        have HE := Lib.hid (show (Option.map Nd.kind (y :: l).head? == some 11) = decide (y.kind = 11) by
          show (some y.kind == some 11) = _
          by_cases h : y.kind = 11 <;> simp [h])
        rw [HE.out]
        have hl : (y :: l).length = l.length + 1 := rfl
        rw [hl]
        generalize y.kind = q at *
        by_cases hq : q = 11
        · subst hq
          go_enter Try.func38, Try.ntmps38
          go_wp2_with fail
          go_ret
          exact ⟨rfl, (Below.refl _ _).alloc (Nat.le_refl _) _⟩
        · have e1 : (q == 11) = false := by simpa using hq
          have HF := Lib.hid (show decide (q = 11) = false by simpa using hq)
          rw [HF.out]
          clear hq
          go_enter Try.func38, Try.ntmps38
          go_wp2_with fail
          go_ret
          exact ⟨rfl, (Below.refl _ _).alloc (Nat.le_refl _) _⟩
  · have e1 : (k == 7) = false := by simpa using h7
    have HF := Lib.hid (show (decide (k = 7) && (ks.head?.map Nd.kind == some 11)) = false by simp [h7])
    rw [HF.out]
    clear h7 hk
    go_enter Try.func38, Try.ntmps38
    go_wp2_with fail
    go_ret
    exact ⟨rfl, (Below.refl _ _).alloc (Nat.le_refl _) _⟩
end Go.Proofs.Ytpfgidhchjcomaa
namespace Go.Proofs.Ytpfgidhchjcomaa
open Go.RowKit
set_option linter.unusedVariables false
/-- a function of a node that answers as q of nodes whose parts lie d within one another -/
def FnN (x : Nat → Prop) (d : Nat) (fn : FuncId) (q : Nd → Bool) : Prop := ∀ n kv nv W, NodesX x d W kv n.kids → StrsX x W nv n.names → NdOk n → Calls Try.prog fn #[ndV n kv nv] W fun e w' => e = .returned (.bool (q n)) ∧ Below W.heap.size W w'
theorem fn_value (x : Nat → Prop) (d : Nat) : FnN x d 65 valB := fun n kv nv W _ _ _ => value_any n kv nv W
theorem fn_literal (x : Nat → Prop) (d : Nat) : FnN x d 64 litB := fun n kv nv W _ _ _ => literal_any n kv nv W
theorem fn_holed (x : Nat → Prop) (d : Nat) : FnN x d 38 holB := fun n kv nv W h _ _ => holed_any x d n kv nv W h
def AllFn (fn : FuncId) : Prop := fn = 65 ∨ fn = 64 ∨ fn = 38 ∨ fn = 24
set_option maxRecDepth 100000 in
theorem all1_any (x : Nat → Prop) (d : Nat) (fn : FuncId) (hfn : AllFn fn) (q : Nd → Bool) (hq : FnN x d fn q) (p : Nat) (n : Nd) (kv nv : Value) (w : World) (hp : w.cell? ⟨p, 0, none⟩ = some (.func (.func fn) #[] #[])) (hk : NodesX x d w kv n.kids) (hs : StrsX x w nv n.names) (ho : NdOk n) :
    Calls Try.prog 35 #[ndV n kv nv, .pointer (some ⟨p, 0, none⟩)] w fun e w' => e = .returned (.bool (!q n)) ∧ Below w.heap.size w w' := by
  have HA := Lib.hid (show ∀ W, Below w.heap.size w W → Calls Try.prog fn #[ndV n kv nv] W fun e w' => e = .returned (.bool (q n)) ∧ Below W.heap.size W w' from fun W hb => hq n kv nv W (hk.later hb) (hs.later hb) ho)
  have hlt := lt_of_cell hp
  clear hq hk hs ho
  generalize q n = r at *
  obtain ⟨k, nm, nu, ks, ns, at_⟩ := n
  show Calls Try.prog 35 #[.agg #[.int .i64 k, .string nm, .int .i64 nu, kv, nv, .int .i64 at_], .pointer (some ⟨p, 0, none⟩)] w _
  replace HA : Hid (∀ W, Below w.heap.size w W → Calls Try.prog fn #[.agg #[.int .i64 k, .string nm, .int .i64 nu, kv, nv, .int .i64 at_]] W fun e w' => e = .returned (.bool r) ∧ Below W.heap.size W w') := HA
  rcases hfn with rfl | rfl | rfl | rfl
  all_goals
    focus
      go_enter Try.func35, Try.ntmps35
      go_wp2_with fail
      refine (HA.out _ ((Below.refl _ _).alloc (Nat.le_refl _) _)).mono ?_
      rintro e w1 ⟨rfl, hb⟩
      have HB := Lib.hid (show Below w.heap.size w w1 from ((Below.refl _ _).alloc (Nat.le_refl _) _).trans (hb.mono (by simp)))
      clear hb
      go_wp2_with fail
      go_ret
      exact ⟨rfl, HB.out⟩
/-- a node of a row: its six cells -/
theorem NodesX.at {x : Nat → Prop} {d : Nat} {w : World} {a : Option Addr} {c : Nat} {l : List Nd} (h : NodesX x (d + 1) w (.slice a l.length c) l) (i : Nat) (n : Nd) (hi : l[i]? = some n) :
    ∃ b o kv nv, a = some ⟨b, o, none⟩ ∧ w.cell? ⟨b, o + i * 6, none⟩ = some (.int .i64 n.kind) ∧ w.cell? ⟨b, o + i * 6 + 1, none⟩ = some (.string n.name) ∧ w.cell? ⟨b, o + i * 6 + 2, none⟩ = some (.int .i64 n.num) ∧ w.cell? ⟨b, o + i * 6 + 3, none⟩ = some kv ∧ w.cell? ⟨b, o + i * 6 + 4, none⟩ = some nv ∧ w.cell? ⟨b, o + i * 6 + 5, none⟩ = some (.int .i64 n.at_) ∧ NodesX x d w kv n.kids ∧ StrsX x w nv n.names ∧ NdOk n := by
  obtain ⟨a', c', hv, -, -, -, h4⟩ := h
  injection hv with e1 e2 e3
  subst e1
  obtain ⟨b, o, kv, nv, ha, -, hc, hk, hs, ho⟩ := h4 i n hi
  exact ⟨b, o, kv, nv, ha, hc 0 (by omega), hc 1 (by omega), hc 2 (by omega), hc 3 (by omega), hc 4 (by omega), hc 5 (by omega), hk, hs, ho⟩
set_option maxRecDepth 100000 in
set_option maxHeartbeats 4000000 in
theorem indexN_any (x : Nat → Prop) (d : Nat) (fn : FuncId) (hfn : AllFn fn) (q : Nd → Bool) (hq : FnN x d fn q) (p : Nat) (v : Value) (l : List Nd) (w : World) (hp : w.cell? ⟨p, 0, none⟩ = some (.func (.func fn) #[] #[])) (h : NodesX x (d + 1) w v l) :
    Calls Try.prog 61 #[v, .func (.func 35) #[] #[.pointer (some ⟨p, 0, none⟩)]] w fun e w' => (∃ r : Int, e = .returned (.int .i64 r) ∧ decide (0 ≤ r) = l.any fun n => !q n) ∧ Below w.heap.size w w' := by
  obtain ⟨a, c, rfl, h1, h2, -⟩ := h.shape
  have HS := Lib.hid h
  have hn : l.length < 9223372036854775808 := by unfold maxLen at h2; omega
  have HP := Lib.hid hp
  have hlt := lt_of_cell hp
  have A1 := Lib.hid (fun n kv nv W hp hk hs ho => all1_any x d fn hfn q hq p n kv nv W hp hk hs ho)
  clear h hp hq hfn
  go_enter Try.func61, Try.ntmps61
  go_wp2_with fail
  go_loopg [5, 8] l.length (fun gg s5 s8 wr => ∃ i : Nat, gg = l.length - i ∧ i ≤ l.length ∧ s8 = .int .i64 (i : Int) ∧ (∀ j y, j < i → l[j]? = some y → (!q y) = false) ∧ Below w.heap.size w wr)
  case atStart => exact ⟨0, rfl, by omega, rfl, fun j y h => absurd h (Nat.not_lt_zero _), Below.refl _ _⟩
  case round =>
    obtain ⟨i, hg, hi, rfl, hno, hb⟩ := hrel
    have HG := Lib.hid hg
    have HN := Lib.hid hno
    have HB := Lib.hid hb
    have HSI := Lib.hid (HS.out.later hb)
    have HPI := Lib.hid (show wr.cell? ⟨p, 0, none⟩ = some (.func (.func fn) #[] #[]) from (hb.cell (p := ⟨p, 0, none⟩) hlt).trans HP.out)
    clear hg hno hb
    by_cases hlt' : i < l.length
    · have hl := List.getElem?_eq_getElem hlt'
      obtain ⟨b, o, kv, nv, rfl, c0, c1, c2, c3, c4, c5, hk, hs, ho⟩ := HSI.out.at i _ hl
      have HL := Lib.hid hl
      clear hl
      have PX := Lib.hid (show Calls Try.prog 35 #[.agg #[.int .i64 l[i].kind, .string l[i].name, .int .i64 l[i].num, kv, nv, .int .i64 l[i].at_], .pointer (some ⟨p, 0, none⟩)] wr fun e w' => e = .returned (.bool (!q l[i])) ∧ Below wr.heap.size wr w' from A1.out l[i] kv nv wr HPI.out hk hs ho)
      clear hk hs ho
      cases hx : (!q l[i]) with
      | true =>
        rw [hx] at PX
        have HA := Lib.hid (show (l.any fun n => !q n) = true from List.any_eq_true.2 ⟨l[i], List.getElem_mem hlt', hx⟩)
        clear hx
        generalize l[i] = s at *
        go_wp2_with fail
        refine PX.out.mono ?_
        rintro e w1 ⟨rfl, h5⟩
        have H5 := Lib.hid (HB.out.trans (h5.mono HB.out.size))
        clear h5
        go_wp2_with fail
        go_ret
        exact ⟨⟨i, rfl, by rw [HA.out]; simp⟩, H5.out⟩
      | false =>
        rw [hx] at PX
        have HX := Lib.hid hx
        clear hx
        have HM := Lib.hid (show ∀ j y, j < i + 1 → l[j]? = some y → (!q y) = false from fun j y hj hy => by
          by_cases hji : j = i
          · subst hji
            rw [HL.out] at hy; injection hy with hy; subst hy; exact HX.out
          · exact HN.out j y (by omega) hy)
        clear HX HL
        generalize l[i] = s at *
        go_wp2_with fail
        refine PX.out.mono ?_
        rintro e w1 ⟨rfl, h5⟩
        have H5 := Lib.hid (HB.out.trans (h5.mono HB.out.size))
        clear h5
        go_wp2_with fail
        go_roundg (l.length - (i + 1))
        case measure => rw [HG.out]; omega
        case rel => exact ⟨i + 1, rfl, by omega, by go_num, HM.out, H5.out⟩
    · have : i = l.length := by omega
      have HA := Lib.hid (show (l.any fun n => !q n) = false from any_take _ l (by rw [← this]; exact HN.out))
      go_wp2_with fail
      go_ret
      exact ⟨⟨-1, rfl, by rw [HA.out]; rfl⟩, HB.out⟩
theorem cell_new (w : World) (v : Value) (t : TypeId) : (w.alloc (.cells #[v] t (0, 0))).cell? ⟨w.heap.size, 0, none⟩ = some v := cell_of_row (w.alloc (.cells #[v] t (0, 0))) w.heap.size 0 #[v] t (0, 0) (show (w.heap.push (.cells #[v] t (0, 0)))[w.heap.size]? = some (.cells #[v] t (0, 0)) by rw [Array.getElem?_push_size])
theorem any_not {α : Type} (q : α → Bool) (l : List α) : (!l.any fun n => !q n) = l.all q := by
  induction l with
  | nil => rfl
  | cons a l ih => simp only [List.any_cons, List.all_cons, Bool.not_or, Bool.not_not, ih]
set_option maxRecDepth 100000 in
theorem containsN_any (x : Nat → Prop) (d : Nat) (fn : FuncId) (hfn : AllFn fn) (q : Nd → Bool) (hq : FnN x d fn q) (p : Nat) (v : Value) (l : List Nd) (w : World) (hp : w.cell? ⟨p, 0, none⟩ = some (.func (.func fn) #[] #[])) (h : NodesX x (d + 1) w v l) :
    Calls Try.prog 34 #[v, .func (.func 35) #[] #[.pointer (some ⟨p, 0, none⟩)]] w fun e w' => e = .returned (.bool (l.any fun n => !q n)) ∧ Below w.heap.size w w' := by
  have IX := Lib.hid (indexN_any x d fn hfn q hq p v l w hp h)
  clear h hp hq
  go_enter Try.func34, Try.ntmps34
  go_wp2_with fail
  refine IX.out.mono ?_
  rintro e w1 ⟨⟨r, rfl, hr⟩, hb⟩
  have HB := Lib.hid hb
  have HR := Lib.hid hr
  clear hb hr
  go_wp2_with fail
  go_ret
  exact ⟨ret_bool HR.out, HB.out⟩
set_option maxRecDepth 100000 in
theorem all_any (x : Nat → Prop) (d : Nat) (fn : FuncId) (hfn : AllFn fn) (q : Nd → Bool) (hq : FnN x d fn q) (v : Value) (l : List Nd) (w : World) (h : NodesX x (d + 1) w v l) :
    Calls Try.prog 23 #[v, .func (.func fn) #[] #[]] w fun e w' => e = .returned (.bool (l.all q)) ∧ Below w.heap.size w w' := by
  have CX := Lib.hid (containsN_any x d fn hfn q hq w.heap.size v l (w.alloc (.cells #[.func (.func fn) #[] #[]] 70 (0, 0))) (cell_new w _ _) (h.later ((Below.refl _ _).alloc (Nat.le_refl _) _)))
  clear h hq
  rw [← any_not]
  generalize (l.any fun n => !q n) = r at *
  go_enter Try.func23, Try.ntmps23
  go_wp2_with fail
  refine CX.out.mono ?_
  rintro e w1 ⟨rfl, hb⟩
  have HB := Lib.hid (show Below w.heap.size w w1 from ((Below.refl _ _).alloc (Nat.le_refl _) _).trans (hb.mono (by simp)))
  clear hb
  go_wp2_with fail
  go_ret
  exact ⟨rfl, HB.out⟩
end Go.Proofs.Ytpfgidhchjcomaa
namespace Go.Proofs.Ytpfgidhchjcomaa
open Go.RowKit
set_option linter.unusedVariables false
def badB (L i : Nat) (n : Nd) : Bool := (decide (n.kind = 10) && decide ((i : Int) < (L : Int) - 1)) || decide (n.kind = 11)
def statB (l : List Nd) : Bool := (List.range l.length).all fun i => match l[i]? with | some n => !badB l.length i n | none => true
theorem stat_no {l : List Nd} (h : ∀ j y, j < l.length → l[j]? = some y → badB l.length j y = false) : statB l = true := by
  unfold statB
  rw [List.all_eq_true]
  intro i hi
  have hi' : i < l.length := List.mem_range.1 hi
  rw [List.getElem?_eq_getElem hi']
  simp [h i _ hi' (List.getElem?_eq_getElem hi')]
theorem stat_yes {l : List Nd} {i : Nat} {n : Nd} (hn : l[i]? = some n) (h : badB l.length i n = true) : statB l = false := by
  have hi : i < l.length := (List.getElem?_eq_some_iff.1 hn).1
  unfold statB
  rw [List.all_eq_false]
  exact ⟨i, List.mem_range.2 hi, by rw [hn]; simp [h]⟩
set_option maxRecDepth 100000 in
set_option maxHeartbeats 4000000 in
theorem statements_any (x : Nat → Prop) (d : Nat) (v : Value) (l : List Nd) (w : World) (h : NodesX x (d + 1) w v l) :
    Calls Try.prog 22 #[v] w fun e w' => e = .returned (.bool (statB l)) ∧ Below w.heap.size w w' := by
  obtain ⟨a, c, rfl, h1, h2, -⟩ := h.shape
  have HS := Lib.hid h
  have hn : l.length ≤ 9223372036854775807 := Nat.le_trans h1 h2
  clear h
  go_enter Try.func22, Try.ntmps22
  go_wp2_with fail
  go_loopg [3, 4, 7] l.length (fun gg s3 s4 s7 wr => ∃ i : Nat, gg = l.length - i ∧ i ≤ l.length ∧ s7 = .int .i64 (i : Int) ∧ (∀ j y, j < i → l[j]? = some y → badB l.length j y = false) ∧ Below w.heap.size w wr)
  case atStart => exact ⟨0, rfl, by omega, rfl, fun j y h => absurd h (Nat.not_lt_zero _), Below.refl _ _⟩
  case round =>
    obtain ⟨i, hg, hi, rfl, hno, hb⟩ := hrel
    have HG := Lib.hid hg
    have HN := Lib.hid hno
    have HB := Lib.hid hb
    have HSI := Lib.hid (HS.out.later hb)
    clear hg hno hb
    by_cases hlt' : i < l.length
    · have hl := List.getElem?_eq_getElem hlt'
      obtain ⟨b, o, kv, nv, rfl, c0, c1, c2, c3, c4, c5, hk, hs, -⟩ := HSI.out.at i _ hl
      obtain ⟨ka, kc, rfl, -⟩ := hk.shape
      obtain ⟨na, nc, rfl, -⟩ := hs
      clear hk
      have HL := Lib.hid hl
      clear hl
      have HX := Lib.hid (show badB l.length i l[i] = ((decide (l[i].kind = 10) && decide ((i : Int) < (l.length : Int) - 1)) || decide (l[i].kind = 11)) from rfl)
      have HM := Lib.hid (show badB l.length i l[i] = false → ∀ j y, j < i + 1 → l[j]? = some y → badB l.length j y = false from fun hx j y hj hy => by
        by_cases hji : j = i
        · subst hji
          rw [HL.out] at hy; injection hy with hy; subst hy; exact hx
        · exact HN.out j y (by omega) hy)
      have HY := Lib.hid (show badB l.length i l[i] = true → statB l = false from fun hx => stat_yes HL.out hx)
      clear HL
      generalize badB l.length i l[i] = r at *
      generalize l[i] = s at *
      generalize s.kind = k at *
      by_cases k1 : k = 11
      · subst k1
        have HA := Lib.hid (HY.out (by rw [HX.out]; simp))
        clear HX HM HY
        go_wp2_with fail
        go_ret
        rw [HA.out]
        exact ⟨rfl, HB.out.alloc HB.out.size _⟩
      · by_cases k2 : k = 10
        · subst k2
          by_cases k3 : (i : Int) < (l.length : Int) - 1
          · have HA := Lib.hid (HY.out (by rw [HX.out]; simp [k3]))
            clear HX HM HY
            go_wp2_with fail
            go_ret
            rw [HA.out]
            exact ⟨rfl, HB.out.alloc HB.out.size _⟩
          · have HA := Lib.hid (HM.out (by rw [HX.out]; simp [k3]))
            clear HX HM HY
            go_wp2_with fail
            go_roundg (l.length - (i + 1))
            case measure => rw [HG.out]; omega
            case rel => exact ⟨i + 1, rfl, by omega, by go_num, HA.out, HB.out.alloc HB.out.size _⟩
        · have HA := Lib.hid (HM.out (by rw [HX.out]; simp [k1, k2]))
          have e1 : (k == 10) = false := by simpa using k2
          have e2 : (k == 11) = false := by simpa using k1
          clear HX HM HY k1 k2
          go_wp2_with fail
          go_roundg (l.length - (i + 1))
          case measure => rw [HG.out]; omega
          case rel => exact ⟨i + 1, rfl, by omega, by go_num, HA.out, HB.out.alloc HB.out.size _⟩
    · have : i = l.length := by omega
      have HA := Lib.hid (show statB l = true from stat_no fun j y hj => HN.out j y (by omega))
      go_wp2_with fail
      go_ret
      rw [HA.out]
      exact ⟨rfl, HB.out⟩
end Go.Proofs.Ytpfgidhchjcomaa
namespace Go.Proofs.Ytpfgidhchjcomaa
open Go.RowKit
set_option linter.unusedVariables false
def shapeB (n : Nd) : Bool :=
  if n.kind = 1 then bareB n false true 0 false
  else if n.kind = 2 then bareB n true false 0 false
  else if n.kind = 3 then bareB n true false 0 false
  else if n.kind = 4 then bareB n false false (-1) false
  else if n.kind = 5 then bareB n true false 0 false && nameB n.name
  else if n.kind = 6 then bareB n true false 1 false && nameB n.name
  else if n.kind = 7 then bareB n true false (1 + arM n.name) false && decide (0 ≤ arM n.name)
  else if n.kind = 8 then bareB n false false (-1) false && decide (2 ≤ n.kids.length)
  else if n.kind = 9 then bareB n false true (-1) true && decide (0 ≤ n.num) && decide (n.num ≤ n.names.length) && allNm n.names
  else if n.kind = 10 then bareB n false false 1 false
  else if n.kind = 11 then bareB n false false 0 false
  else false
theorem shape_any (x : Nat → Prop) (d : Nat) (n : Nd) (kv nv : Value) (w : World) (hk : NodesX x d w kv n.kids) (hs : StrsX x w nv n.names) :
    Calls Try.prog 36 #[ndV n kv nv] w fun e w' => e = .returned (.bool (shapeB n)) ∧ Below w.heap.size w w' := by
  unfold shapeB
  split
  · exact shape1_any x d n kv nv w hk hs ‹_›
  split
  · exact shape2_any x d n kv nv w hk hs ‹_›
  split
  · exact shape3_any x d n kv nv w hk hs ‹_›
  split
  · exact shape4_any x d n kv nv w hk hs ‹_›
  split
  · exact shape5_any x d n kv nv w hk hs ‹_›
  split
  · exact shape6_any x d n kv nv w hk hs ‹_›
  split
  · exact shape7_any x d n kv nv w hk hs ‹_›
  split
  · exact shape8_any x d n kv nv w hk hs ‹_›
  split
  · exact shape9_any x d n kv nv w hk hs ‹_›
  split
  · exact shape10_any x d n kv nv w hk hs ‹_›
  split
  · exact shape11_any x d n kv nv w hk hs ‹_›
  · exact shape_else n kv nv w (by omega)
theorem NodesX.succ {x : Nat → Prop} {w : World} : ∀ {d : Nat} {v : Value} {l : List Nd}, NodesX x d w v l → NodesX x (d + 1) w v l
  | 0, v, l, ⟨hl, a, cap, hv, h1, h2⟩ => by subst hl; exact ⟨a, cap, hv, Nat.zero_le _, h1, h2, fun i n h => by simp at h⟩
  | d + 1, v, l, ⟨a, cap, hv, h1, h2, h3, h4⟩ => ⟨a, cap, hv, h1, h2, h3, fun i n hn => by
    obtain ⟨b, o, kv, nv, ha, hx, hc, hk, hs, ho⟩ := h4 i n hn
    exact ⟨b, o, kv, nv, ha, hx, hc, hk.succ, hs, ho⟩⟩
/-- the nodes behind the first -/
theorem NodesX.tail {x : Nat → Prop} {d : Nat} {w : World} {b o c : Nat} {y : Nd} {l : List Nd} (h : NodesX x (d + 1) w (.slice (some ⟨b, o, none⟩) (l.length + 1) c) (y :: l)) : NodesX x (d + 1) w (.slice (some ⟨b, o + 6, none⟩) l.length (c - 1)) l := by
  obtain ⟨a, cap, hv, h1, h2, h3, h4⟩ := h
  injection hv with e1 e2 e3
  subst e3
  have h1' : l.length + 1 ≤ c := h1
  refine ⟨_, _, rfl, by omega, by omega, fun h => absurd h (by simp), fun i n hn => ?_⟩
  obtain ⟨b', o', kv, nv, ha, hx, hc, hk, hs, ho⟩ := h4 (i + 1) n (by simpa using hn)
  rw [← e1] at ha
  injection ha with ha
  injection ha with hb ho' _
  subst hb; subst ho'
  exact ⟨b, o + 6, kv, nv, rfl, hx, fun j hj => by rw [← hc j hj]; congr 2; omega, hk, hs, ho⟩
theorem NodesX.tail' {x : Nat → Prop} {d : Nat} {w : World} {b o c : Nat} {y : Nd} {l : List Nd} (h : NodesX x (d + 1) w (.slice (some ⟨b, o, none⟩) (y :: l).length c) (y :: l)) (_ : 1 < c) : NodesX x (d + 1) w (.slice (some ⟨b, o + 6, none⟩) l.length (c - 1)) l := NodesX.tail h
theorem NodesX.tail1 {x : Nat → Prop} {d : Nat} {w : World} {b o c : Nat} {y : Nd} {l : List Nd} (h : NodesX x (d + 1) w (.slice (some ⟨b, o, none⟩) (y :: l).length c) (y :: l)) (hc : c = 1) : NodesX x (d + 1) w (.slice (some ⟨b, o, none⟩) l.length 0) l := by
  obtain ⟨a, c', hv, h1, -⟩ := h.shape
  injection hv with e1 e2 e3
  have : l.length = 0 := by
    simp only [List.length_cons] at h1
    omega
  obtain rfl := List.length_eq_zero_iff.1 this
  exact ⟨_, _, rfl, Nat.le_refl _, by unfold maxLen; omega, fun _ => rfl, fun i n h => by simp at h⟩
def kidsB (n : Nd) : Bool :=
  if n.kind = 4 then n.kids.all litB
  else if n.kind = 9 then statB n.kids
  else if n.kind = 8 then (match n.kids with | k :: l => decide (k.kind = 7) && !holB k && l.all holB | [] => false)
  else if n.kind = 7 then (match n.kids with | k :: l => l.all valB && !decide (k.kind = 10) | [] => false)
  else n.kids.all valB
set_option maxRecDepth 100000 in
theorem kids4_any (x : Nat → Prop) (d : Nat) (n : Nd) (kv nv : Value) (w : World) (hk : NodesX x (d + 1) w kv n.kids) (hn : n.kind = 4) :
    Calls Try.prog 37 #[ndV n kv nv] w fun e w' => e = .returned (.bool (n.kids.all litB)) ∧ Below w.heap.size w w' := by
  have AA := Lib.hid (fun W (hb : Below w.heap.size w W) => all_any x d 64 (Or.inr (Or.inl rfl)) litB (fn_literal x d) kv n.kids W (hk.later hb))
  clear hk
  obtain ⟨k, nm, nu, ks, ns, at_⟩ := n
  obtain rfl : k = 4 := hn
  show Calls Try.prog 37 #[.agg #[.int .i64 4, .string nm, .int .i64 nu, kv, nv, .int .i64 at_]] w fun e w' => e = .returned (.bool (ks.all litB)) ∧ Below w.heap.size w w'
  replace AA : Hid (∀ W, Below w.heap.size w W → Calls Try.prog 23 #[kv, .func (.func 64) #[] #[]] W fun e w' => e = .returned (.bool (ks.all litB)) ∧ Below W.heap.size W w') := AA
  generalize ks.all litB = r at *
  go_enter Try.func37, Try.ntmps37
  go_wp2_with fail
  refine (AA.out _ ((Below.refl _ _).alloc (Nat.le_refl _) _)).mono ?_
  rintro e w1 ⟨rfl, hb⟩
  have HB := Lib.hid (show Below w.heap.size w w1 from ((Below.refl _ _).alloc (Nat.le_refl _) _).trans (hb.mono (by simp)))
  clear hb
  go_wp2_with fail
  go_ret
  exact ⟨rfl, HB.out⟩
set_option maxRecDepth 100000 in
theorem kids9_any (x : Nat → Prop) (d : Nat) (n : Nd) (kv nv : Value) (w : World) (hk : NodesX x (d + 1) w kv n.kids) (hn : n.kind = 9) :
    Calls Try.prog 37 #[ndV n kv nv] w fun e w' => e = .returned (.bool (statB n.kids)) ∧ Below w.heap.size w w' := by
  have AA := Lib.hid (fun W (hb : Below w.heap.size w W) => statements_any x d kv n.kids W (hk.later hb))
  clear hk
  obtain ⟨k, nm, nu, ks, ns, at_⟩ := n
  obtain rfl : k = 9 := hn
  show Calls Try.prog 37 #[.agg #[.int .i64 9, .string nm, .int .i64 nu, kv, nv, .int .i64 at_]] w fun e w' => e = .returned (.bool (statB ks)) ∧ Below w.heap.size w w'
  replace AA : Hid (∀ W, Below w.heap.size w W → Calls Try.prog 22 #[kv] W fun e w' => e = .returned (.bool (statB ks)) ∧ Below W.heap.size W w') := AA
  generalize statB ks = r at *
  go_enter Try.func37, Try.ntmps37
  go_wp2_with fail
  refine (AA.out _ ((Below.refl _ _).alloc (Nat.le_refl _) _)).mono ?_
  rintro e w1 ⟨rfl, hb⟩
  have HB := Lib.hid (show Below w.heap.size w w1 from ((Below.refl _ _).alloc (Nat.le_refl _) _).trans (hb.mono (by simp)))
  clear hb
  go_wp2_with fail
  go_ret
  exact ⟨rfl, HB.out⟩
set_option maxRecDepth 100000 in
theorem kids_else (x : Nat → Prop) (d : Nat) (n : Nd) (kv nv : Value) (w : World) (hk : NodesX x (d + 1) w kv n.kids) (h4 : ¬ n.kind = 4) (h9 : ¬ n.kind = 9) (h8 : ¬ n.kind = 8) (h7 : ¬ n.kind = 7) :
    Calls Try.prog 37 #[ndV n kv nv] w fun e w' => e = .returned (.bool (n.kids.all valB)) ∧ Below w.heap.size w w' := by
  have AA := Lib.hid (fun W (hb : Below w.heap.size w W) => all_any x d 65 (Or.inl rfl) valB (fn_value x d) kv n.kids W (hk.later hb))
  clear hk
  obtain ⟨k, nm, nu, ks, ns, at_⟩ := n
  have e4 : (k == 4) = false := by simpa using (show ¬ k = 4 from h4)
  have e7 : (k == 7) = false := by simpa using (show ¬ k = 7 from h7)
  have e8 : (k == 8) = false := by simpa using (show ¬ k = 8 from h8)
  have e9 : (k == 9) = false := by simpa using (show ¬ k = 9 from h9)
  clear h4 h9 h8 h7
  show Calls Try.prog 37 #[.agg #[.int .i64 k, .string nm, .int .i64 nu, kv, nv, .int .i64 at_]] w fun e w' => e = .returned (.bool (ks.all valB)) ∧ Below w.heap.size w w'
  replace AA : Hid (∀ W, Below w.heap.size w W → Calls Try.prog 23 #[kv, .func (.func 65) #[] #[]] W fun e w' => e = .returned (.bool (ks.all valB)) ∧ Below W.heap.size W w') := AA
  generalize ks.all valB = r at *
  go_enter Try.func37, Try.ntmps37
  go_wp2_with fail
  refine (AA.out _ ((Below.refl _ _).alloc (Nat.le_refl _) _)).mono ?_
  rintro e w1 ⟨rfl, hb⟩
  have HB := Lib.hid (show Below w.heap.size w w1 from ((Below.refl _ _).alloc (Nat.le_refl _) _).trans (hb.mono (by simp)))
  clear hb
  go_wp2_with fail
  go_ret
  exact ⟨rfl, HB.out⟩
set_option maxRecDepth 100000 in
set_option maxHeartbeats 4000000 in
theorem kids7_any (x : Nat → Prop) (d : Nat) (n : Nd) (kv nv : Value) (w : World) (hk : NodesX x (d + 1) w kv n.kids) (hn : n.kind = 7) (k : Nd) (l : List Nd) (hl : n.kids = k :: l) :
    Calls Try.prog 37 #[ndV n kv nv] w fun e w' => e = .returned (.bool (l.all valB && !decide (k.kind = 10))) ∧ Below w.heap.size w w' := by
  rw [hl] at hk
  obtain ⟨a, c, rfl, h1, h2, -⟩ := hk.shape
  obtain ⟨b, o, kv', nv', rfl, c0, -⟩ := hk.at 0 k rfl
  have ht := fun hc => hk.tail' hc
  simp only [Nat.zero_mul, Nat.add_zero] at c0
  have hlt := lt_of_cell c0
  have hl1 : (k :: l).length = l.length + 1 := rfl
  rw [hl1] at h1
  have AA := Lib.hid (fun W (hb : Below w.heap.size w W) => fun hc => all_any x d 65 (Or.inl rfl) valB (fn_value x d) _ l W ((ht hc).later hb))
  have AB := Lib.hid (fun W (hb : Below w.heap.size w W) => fun hc => all_any x d 65 (Or.inl rfl) valB (fn_value x d) _ l W ((hk.tail1 hc).later hb))
  clear hk ht
  obtain ⟨kk, nm, nu, ks, ns, at_⟩ := n
  obtain rfl : kk = 7 := hn
  show Calls Try.prog 37 #[.agg #[.int .i64 7, .string nm, .int .i64 nu, .slice (some ⟨b, o, none⟩) (l.length + 1) c, nv, .int .i64 at_]] w fun e w' => e = .returned (.bool (l.all valB && !decide (k.kind = 10))) ∧ Below w.heap.size w w'
  replace AA : Hid (∀ W, Below w.heap.size w W → 1 < c → Calls Try.prog 23 #[.slice (some ⟨b, o + 6, none⟩) l.length (c - 1), .func (.func 65) #[] #[]] W fun e w' => e = .returned (.bool (l.all valB)) ∧ Below W.heap.size W w') := AA
  replace AB : Hid (∀ W, Below w.heap.size w W → c = 1 → Calls Try.prog 23 #[.slice (some ⟨b, o, none⟩) l.length 0, .func (.func 65) #[] #[]] W fun e w' => e = .returned (.bool (l.all valB)) ∧ Below W.heap.size W w') := AB
  generalize l.all valB = r at *
  have HQ := Lib.hid (show (!decide (k.kind = 10)) = (k.kind != 10) by by_cases h : k.kind = 10 <;> simp [h])
  rw [HQ.out]
  clear HQ
  generalize k.kind = q at *
  generalize l.length = m at *
  rcases Nat.lt_or_ge 1 c with hc | hc
  · have hne : ¬ c = 1 := by omega
    replace AA := Lib.hid (fun W hb => AA.out W hb hc)
    cases r
    all_goals
      go_enter Try.func37, Try.ntmps37
      go_wp2_with fail
      refine (AA.out _ ((Below.refl _ _).alloc (Nat.le_refl _) _)).mono ?_
      rintro e w1 ⟨rfl, hb⟩
      have hs := hb.size
      have g3 := (hb.cell (p := ⟨w.heap.size, 3, none⟩) (by simp)).trans (by simp : _ = some (.slice (some ⟨b, o, none⟩) (m + 1) c))
      have HB := Lib.hid (show Below w.heap.size w w1 from ((Below.refl _ _).alloc (Nat.le_refl _) _).trans (hb.mono (by simp)))
      have g0 : w1.cell? ⟨b, o, none⟩ = some (.int .i64 q) := (HB.out.cell (p := ⟨b, o, none⟩) hlt).trans c0
      clear hb
      go_wp2_with fail
      go_ret
      exact ⟨rfl, HB.out⟩
  · obtain rfl : c = 1 := by omega
    obtain rfl : m = 0 := by omega
    replace AB := Lib.hid (fun W hb => AB.out W hb rfl)
    cases r
    all_goals
      go_enter Try.func37, Try.ntmps37
      go_wp2_with fail
      refine (AB.out _ ((Below.refl _ _).alloc (Nat.le_refl _) _)).mono ?_
      rintro e w1 ⟨rfl, hb⟩
      have hs := hb.size
      have g3 := (hb.cell (p := ⟨w.heap.size, 3, none⟩) (by simp)).trans (by simp : _ = some (.slice (some ⟨b, o, none⟩) (0 + 1) 1))
      have HB := Lib.hid (show Below w.heap.size w w1 from ((Below.refl _ _).alloc (Nat.le_refl _) _).trans (hb.mono (by simp)))
      have g0 : w1.cell? ⟨b, o, none⟩ = some (.int .i64 q) := (HB.out.cell (p := ⟨b, o, none⟩) hlt).trans c0
      clear hb
      go_wp2_with fail
      go_ret
      exact ⟨rfl, HB.out⟩
set_option maxRecDepth 100000 in
set_option maxHeartbeats 8000000 in
theorem kids8_any (x : Nat → Prop) (d : Nat) (n : Nd) (kv nv : Value) (w : World) (hk : NodesX x (d + 1) w kv n.kids) (hn : n.kind = 8) (k : Nd) (l : List Nd) (hl : n.kids = k :: l) :
    Calls Try.prog 37 #[ndV n kv nv] w fun e w' => e = .returned (.bool (decide (k.kind = 7) && !holB k && l.all holB)) ∧ Below w.heap.size w w' := by
  rw [hl] at hk
  obtain ⟨a, c, rfl, h1, h2, -⟩ := hk.shape
  obtain ⟨b, o, kv', nv', rfl, c0, c1, c2, c3, c4, c5, hk0, -⟩ := hk.at 0 k rfl
  have ht := fun hc => hk.tail' hc
  simp only [Nat.zero_mul, Nat.add_zero] at c0 c1 c2 c3 c4 c5
  have hlt := lt_of_cell c0
  have hl1 : (k :: l).length = l.length + 1 := rfl
  rw [hl1] at h1
  have AA := Lib.hid (fun W (hb : Below w.heap.size w W) => fun hc => all_any x d 38 (Or.inr (Or.inr (Or.inl rfl))) holB (fn_holed x d) _ l W ((ht hc).later hb))
  have AB := Lib.hid (fun W (hb : Below w.heap.size w W) => fun hc => all_any x d 38 (Or.inr (Or.inr (Or.inl rfl))) holB (fn_holed x d) _ l W ((hk.tail1 hc).later hb))
  have HO := Lib.hid (fun W (hb : Below w.heap.size w W) => holed_any x d k kv' nv' W (hk0.later hb))
  clear hk ht hk0
  obtain ⟨kk, nm, nu, ks, ns, at_⟩ := n
  obtain rfl : kk = 8 := hn
  show Calls Try.prog 37 #[.agg #[.int .i64 8, .string nm, .int .i64 nu, .slice (some ⟨b, o, none⟩) (l.length + 1) c, nv, .int .i64 at_]] w fun e w' => e = .returned (.bool (decide (k.kind = 7) && !holB k && l.all holB)) ∧ Below w.heap.size w w'
  replace AA : Hid (∀ W, Below w.heap.size w W → 1 < c → Calls Try.prog 23 #[.slice (some ⟨b, o + 6, none⟩) l.length (c - 1), .func (.func 38) #[] #[]] W fun e w' => e = .returned (.bool (l.all holB)) ∧ Below W.heap.size W w') := AA
  replace AB : Hid (∀ W, Below w.heap.size w W → c = 1 → Calls Try.prog 23 #[.slice (some ⟨b, o, none⟩) l.length 0, .func (.func 38) #[] #[]] W fun e w' => e = .returned (.bool (l.all holB)) ∧ Below W.heap.size W w') := AB
  replace HO : Hid (∀ W, Below w.heap.size w W → Calls Try.prog 38 #[.agg #[.int .i64 k.kind, .string k.name, .int .i64 k.num, kv', nv', .int .i64 k.at_]] W fun e w' => e = .returned (.bool (holB k)) ∧ Below W.heap.size W w') := HO
  generalize l.all holB = r at *
  generalize holB k = t at *
  have HQ := Lib.hid (show (decide (k.kind = 7)) = (k.kind == 7) by by_cases h : k.kind = 7 <;> simp [h])
  rw [HQ.out]
  clear HQ
  generalize k.kind = q at *
  generalize k.name = kn at *
  generalize k.num = ku at *
  generalize k.at_ = ka at *
  generalize l.length = m at *
  by_cases hq : q = 7
  · subst hq
    rcases Nat.lt_or_ge 1 c with hc | hc
    · have hne : ¬ c = 1 := by omega
      replace AA := Lib.hid (fun W hb => AA.out W hb hc)
      clear AB
      cases t
      · go_enter Try.func37, Try.ntmps37
        go_wp2_with fail
        refine (HO.out _ ((Below.refl _ _).alloc (Nat.le_refl _) _)).mono ?_
        rintro e w1 ⟨rfl, hb⟩
        have hs := hb.size
        have g3 := (hb.cell (p := ⟨w.heap.size, 3, none⟩) (by simp)).trans (by simp : _ = some (.slice (some ⟨b, o, none⟩) (m + 1) c))
        have HB := Lib.hid (show Below w.heap.size w w1 from ((Below.refl _ _).alloc (Nat.le_refl _) _).trans (hb.mono (by simp)))
        clear hb
        go_wp2_with fail
        refine (AA.out _ HB.out).mono ?_
        rintro e w2 ⟨rfl, hb⟩
        have HB2 := Lib.hid (HB.out.trans (hb.mono HB.out.size))
        clear hb
        go_wp2_with fail
        go_ret
        exact ⟨rfl, HB2.out⟩
      · go_enter Try.func37, Try.ntmps37
        go_wp2_with fail
        refine (HO.out _ ((Below.refl _ _).alloc (Nat.le_refl _) _)).mono ?_
        rintro e w1 ⟨rfl, hb⟩
        have HB := Lib.hid (show Below w.heap.size w w1 from ((Below.refl _ _).alloc (Nat.le_refl _) _).trans (hb.mono (by simp)))
        clear hb
        go_wp2_with fail
        go_ret
        exact ⟨rfl, HB.out⟩
    · obtain rfl : c = 1 := by omega
      obtain rfl : m = 0 := by omega
      replace AB := Lib.hid (fun W hb => AB.out W hb rfl)
      clear AA
      cases t
      · go_enter Try.func37, Try.ntmps37
        go_wp2_with fail
        refine (HO.out _ ((Below.refl _ _).alloc (Nat.le_refl _) _)).mono ?_
        rintro e w1 ⟨rfl, hb⟩
        have hs := hb.size
        have g3 := (hb.cell (p := ⟨w.heap.size, 3, none⟩) (by simp)).trans (by simp : _ = some (.slice (some ⟨b, o, none⟩) (0 + 1) 1))
        have HB := Lib.hid (show Below w.heap.size w w1 from ((Below.refl _ _).alloc (Nat.le_refl _) _).trans (hb.mono (by simp)))
        clear hb
        go_wp2_with fail
        refine (AB.out _ HB.out).mono ?_
        rintro e w2 ⟨rfl, hb⟩
        have HB2 := Lib.hid (HB.out.trans (hb.mono HB.out.size))
        clear hb
        go_wp2_with fail
        go_ret
        exact ⟨rfl, HB2.out⟩
      · go_enter Try.func37, Try.ntmps37
        go_wp2_with fail
        refine (HO.out _ ((Below.refl _ _).alloc (Nat.le_refl _) _)).mono ?_
        rintro e w1 ⟨rfl, hb⟩
        have HB := Lib.hid (show Below w.heap.size w w1 from ((Below.refl _ _).alloc (Nat.le_refl _) _).trans (hb.mono (by simp)))
        clear hb
        go_wp2_with fail
        go_ret
        exact ⟨rfl, HB.out⟩
  · have e7 : (q == 7) = false := by simpa using hq
    clear AA AB HO hq
    have HF := Lib.hid (show (q == 7 && !t && r) = false by rw [e7]; rfl)
    rw [HF.out]
    go_enter Try.func37, Try.ntmps37
    go_wp2_with fail
    go_ret
    exact ⟨rfl, (Below.refl _ _).alloc (Nat.le_refl _) _⟩
theorem kids_any (x : Nat → Prop) (d : Nat) (n : Nd) (kv nv : Value) (w : World) (hk : NodesX x (d + 1) w kv n.kids) (h7 : n.kind = 7 → n.kids ≠ []) (h8 : n.kind = 8 → n.kids ≠ []) :
    Calls Try.prog 37 #[ndV n kv nv] w fun e w' => e = .returned (.bool (kidsB n)) ∧ Below w.heap.size w w' := by
  unfold kidsB
  split
  · exact kids4_any x d n kv nv w hk ‹_›
  split
  · exact kids9_any x d n kv nv w hk ‹_›
  split
  · rename_i h
    cases hl : n.kids with
    | nil => exact absurd hl (h8 h)
    | cons k l => exact kids8_any x d n kv nv w hk h k l hl
  split
  · rename_i h
    cases hl : n.kids with
    | nil => exact absurd hl (h7 h)
    | cons k l => exact kids7_any x d n kv nv w hk h k l hl
  · exact kids_else x d n kv nv w hk ‹_› ‹_› ‹_› ‹_›
end Go.Proofs.Ytpfgidhchjcomaa
