/- math/bits.TrailingZeros64 by the library's contract. -/
import Derived.Test.YtibopjjicfiimaaGreatDoorProg
import Derived.Shelf.Spec.TrailingZeros
import Derived.KernelRfl
namespace Go.Proofs
open Go.Shelf
def Tryz.tz_ren : Go.Shelf.Ren := ⟨fun | 29 => 70 | n => n, fun | 0 => 0 | 3 => 3 | 4 => 4 | 5 => 5 | 22 => 30 | 25 => 139 | 54 => 174 | n => n, fun | 1 => 0 | n => n⟩
theorem Tryz.lays_tz : Lays7.n29 Tryz.prog Tryz.tz_ren := {
  mixed := by kernel_rfl
  f29 := Tryz.func70.trans (congrArg some (by kernel_rfl))
  t0 := Tryz.underlying0
  a0 := Tryz.isAgg0
  z0 := Tryz.sizeOf0
  v0 := Tryz.zeroValue0
  i0 := by kernel_rfl
  t3 := Tryz.underlying3
  a3 := Tryz.isAgg3
  z3 := Tryz.sizeOf3
  v3 := Tryz.zeroValue3
  i3 := by kernel_rfl
  t4 := Tryz.underlying4
  a4 := Tryz.isAgg4
  z4 := Tryz.sizeOf4
  v4 := Tryz.zeroValue4
  i4 := by kernel_rfl
  t5 := Tryz.underlying5
  a5 := Tryz.isAgg5
  z5 := Tryz.sizeOf5
  v5 := Tryz.zeroValue5
  i5 := by kernel_rfl
  t22 := Tryz.underlying30
  a22 := Tryz.isAgg30
  z22 := Tryz.sizeOf30
  v22 := Tryz.zeroValue30
  i22 := by kernel_rfl
  t25 := Tryz.underlying139
  a25 := Tryz.isAgg139
  z25 := Tryz.sizeOf139
  v25 := Tryz.zeroValue139
  i25 := by kernel_rfl
  t54 := Tryz.underlying174
  a54 := Tryz.isAgg174
  z54 := Tryz.sizeOf174
  g1 := by kernel_rfl }
theorem Tryz.tz64 (x : Nat) (hx : x < 18446744073709551616) (w : World) (hT : x ≠ 0 → TabAt 0 Lib.deBruijn64tab w) :
    Calls Tryz.prog 70 #[.int .u64 x] w fun e w' => e = .returned (.int .i64 (Lib.ctz 64 x)) ∧ w' = w := Any7.bits_TrailingZeros64 Tryz.lays_tz x hx w hT
end Go.Proofs
