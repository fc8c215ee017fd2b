/- The last stage, a. -/
import Derived.Test.YtnccicagemmjeaaGreatDoorVy4a
namespace Go.Proofs.YtnccicagemmjeaaGreatDoor
open Go Go.Vx
set_option maxRecDepth 1000000
theorem fiaK0 : finOk (EY.with [(.var 0, (.negSucc 9223372036854775807), (.ofNat 0)), (.var 1, (.ofNat 0), (.ofNat 0))]) 200 Tryz.f3 GG (rest3 9) L3aK0 = true := by kernel_rfl
theorem fiaK1 : finOk (EY.with [(.var 0, (.ofNat 1), (.ofNat 1)), (.var 1, (.ofNat 0), (.ofNat 0))]) 200 Tryz.f3 GG (rest3 9) L3aK1 = true := by kernel_rfl
theorem fiaK2 : finOk (EY.with [(.var 0, (.ofNat 2), (.ofNat 2)), (.var 1, (.ofNat 0), (.ofNat 0))]) 200 Tryz.f3 GG (rest3 9) L3aK2 = true := by kernel_rfl
theorem fiaK3 : finOk (EY.with [(.var 0, (.ofNat 3), (.ofNat 3)), (.var 1, (.ofNat 0), (.ofNat 0))]) 200 Tryz.f3 GG (rest3 9) L3aK3 = true := by kernel_rfl
theorem fiaK4 : finOk (EY.with [(.var 0, (.ofNat 4), (.ofNat 4)), (.var 1, (.ofNat 0), (.ofNat 0))]) 200 Tryz.f3 GG (rest3 9) L3aK4 = true := by kernel_rfl
theorem fiaK5 : finOk (EY.with [(.var 0, (.ofNat 5), (.ofNat 6)), (.var 1, (.ofNat 0), (.ofNat 0))]) 200 Tryz.f3 GG (rest3 9) L3aK5 = true := by kernel_rfl
theorem fiaK7 : finOk (EY.with [(.var 0, (.ofNat 7), (.ofNat 7)), (.var 1, (.ofNat 0), (.ofNat 0))]) 200 Tryz.f3 GG (rest3 9) L3aK7 = true := by kernel_rfl
theorem fiaK8 : finOk (EY.with [(.var 0, (.ofNat 8), (.ofNat 9)), (.var 1, (.ofNat 0), (.ofNat 0))]) 200 Tryz.f3 GG (rest3 9) L3aK8 = true := by kernel_rfl
theorem fiaK10 : finOk (EY.with [(.var 0, (.ofNat 10), (.ofNat 10)), (.var 1, (.ofNat 0), (.ofNat 0))]) 200 Tryz.f3 GG (rest3 9) L3aK10 = true := by kernel_rfl
theorem fiaK11 : finOk (EY.with [(.var 0, (.ofNat 11), (.ofNat 9223372036854775807)), (.var 1, (.ofNat 0), (.ofNat 0))]) 200 Tryz.f3 GG (rest3 9) L3aK11 = true := by kernel_rfl
end Go.Proofs.YtnccicagemmjeaaGreatDoor
