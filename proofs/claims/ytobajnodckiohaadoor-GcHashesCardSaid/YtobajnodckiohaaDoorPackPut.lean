/- A number's lowest bytes behind others. -/
import Derived.Test.YtobajnodckiohaaDoorCopy
import Derived.Test.YtobajnodckiohaaDoorShelf
import Derived.Laws.CopyOwn
namespace Go.Proofs.YtobajnodckiohaaDoor
open Go.RowKit
def leBytes (x : Nat) : Nat → List UInt8
  | 0 => []
  | k + 1 => leBytes x k ++ [UInt8.ofNat (x / 256 ^ k % 256)]
theorem leBytes_len (x k : Nat) : (leBytes x k).length = k := by
  induction k with
  | zero => rfl
  | succ k ih => simp [leBytes, ih]
def clip8 (n : Int) : Nat := (max 0 (min n 8)).toNat
end Go.Proofs.YtobajnodckiohaaDoor
