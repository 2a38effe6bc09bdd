/- math/bits.TrailingZeros64 by the library's contract. -/
import Derived.Test.YtobajnodckiohaaDoorProg
import Derived.Shelf.Spec.TrailingZeros
import Derived.KernelRfl
namespace Go.Proofs
open Go.Shelf
def Tryd.tz_ren : Go.Shelf.Ren := ⟨fun | 29 => 53 | n => n, fun | 0 => 0 | 3 => 3 | 4 => 4 | 5 => 5 | 22 => 37 | 25 => 118 | 54 => 130 | n => n, fun | 1 => 0 | n => n⟩
theorem Tryd.lays_tz : Lays7.n29 Tryd.prog Tryd.tz_ren := {
  mixed := by kernel_rfl
  f29 := Tryd.func53.trans (congrArg some (by kernel_rfl))
  t0 := Tryd.underlying0
  a0 := Tryd.isAgg0
  z0 := Tryd.sizeOf0
  v0 := Tryd.zeroValue0
  i0 := by kernel_rfl
  t3 := Tryd.underlying3
  a3 := Tryd.isAgg3
  z3 := Tryd.sizeOf3
  v3 := Tryd.zeroValue3
  i3 := by kernel_rfl
  t4 := Tryd.underlying4
  a4 := Tryd.isAgg4
  z4 := Tryd.sizeOf4
  v4 := Tryd.zeroValue4
  i4 := by kernel_rfl
  t5 := Tryd.underlying5
  a5 := Tryd.isAgg5
  z5 := Tryd.sizeOf5
  v5 := Tryd.zeroValue5
  i5 := by kernel_rfl
  t22 := Tryd.underlying37
  a22 := Tryd.isAgg37
  z22 := Tryd.sizeOf37
  v22 := Tryd.zeroValue37
  i22 := by kernel_rfl
  t25 := Tryd.underlying118
  a25 := Tryd.isAgg118
  z25 := Tryd.sizeOf118
  v25 := Tryd.zeroValue118
  i25 := by kernel_rfl
  t54 := Tryd.underlying130
  a54 := Tryd.isAgg130
  z54 := Tryd.sizeOf130
  g1 := by kernel_rfl }
theorem Tryd.tz64 (x : Nat) (hx : x < 18446744073709551616) (w : World) (hT : x ≠ 0 → TabAt 0 Lib.deBruijn64tab w) :
    Calls Tryd.prog 53 #[.int .u64 x] w fun e w' => e = .returned (.int .i64 (Lib.ctz 64 x)) ∧ w' = w := Any7.bits_TrailingZeros64 Tryd.lays_tz x hx w hT
end Go.Proofs
