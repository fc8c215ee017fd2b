/- The last stage, b. -/
import Derived.Test.YtnccicagemmjeaaGreatDoorVy4b
namespace Go.Proofs.YtnccicagemmjeaaGreatDoor
open Go Go.Vx
set_option maxRecDepth 1000000
theorem fibK0m : finOk (EY.with [(.var 0, (.negSucc 9223372036854775807), (.ofNat 0)), (.var 1, (.negSucc 9223372036854775807), (.negSucc 0))]) 200 Tryz.f3 GG (rest3 9) L3bK0 = true := by kernel_rfl
theorem fibK0p : finOk (EY.with [(.var 0, (.negSucc 9223372036854775807), (.ofNat 0)), (.var 1, (.ofNat 1), (.ofNat 9223372036854775807))]) 200 Tryz.f3 GG (rest3 9) L3bK0 = true := by kernel_rfl
theorem fibK1m : finOk (EY.with [(.var 0, (.ofNat 1), (.ofNat 1)), (.var 1, (.negSucc 9223372036854775807), (.negSucc 0))]) 200 Tryz.f3 GG (rest3 9) L3bK1 = true := by kernel_rfl
theorem fibK1p : finOk (EY.with [(.var 0, (.ofNat 1), (.ofNat 1)), (.var 1, (.ofNat 1), (.ofNat 9223372036854775807))]) 200 Tryz.f3 GG (rest3 9) L3bK1 = true := by kernel_rfl
theorem fibK2m : finOk (EY.with [(.var 0, (.ofNat 2), (.ofNat 2)), (.var 1, (.negSucc 9223372036854775807), (.negSucc 0))]) 200 Tryz.f3 GG (rest3 9) L3bK2 = true := by kernel_rfl
theorem fibK2p : finOk (EY.with [(.var 0, (.ofNat 2), (.ofNat 2)), (.var 1, (.ofNat 1), (.ofNat 9223372036854775807))]) 200 Tryz.f3 GG (rest3 9) L3bK2 = true := by kernel_rfl
theorem fibK3m : finOk (EY.with [(.var 0, (.ofNat 3), (.ofNat 3)), (.var 1, (.negSucc 9223372036854775807), (.negSucc 0))]) 200 Tryz.f3 GG (rest3 9) L3bK3 = true := by kernel_rfl
theorem fibK3p : finOk (EY.with [(.var 0, (.ofNat 3), (.ofNat 3)), (.var 1, (.ofNat 1), (.ofNat 9223372036854775807))]) 200 Tryz.f3 GG (rest3 9) L3bK3 = true := by kernel_rfl
theorem fibK4m : finOk (EY.with [(.var 0, (.ofNat 4), (.ofNat 4)), (.var 1, (.negSucc 9223372036854775807), (.negSucc 0))]) 200 Tryz.f3 GG (rest3 9) L3bK4 = true := by kernel_rfl
theorem fibK4p : finOk (EY.with [(.var 0, (.ofNat 4), (.ofNat 4)), (.var 1, (.ofNat 1), (.ofNat 9223372036854775807))]) 200 Tryz.f3 GG (rest3 9) L3bK4 = true := by kernel_rfl
theorem fibK5m : finOk (EY.with [(.var 0, (.ofNat 5), (.ofNat 6)), (.var 1, (.negSucc 9223372036854775807), (.negSucc 0))]) 200 Tryz.f3 GG (rest3 9) L3bK5 = true := by kernel_rfl
theorem fibK5p : finOk (EY.with [(.var 0, (.ofNat 5), (.ofNat 6)), (.var 1, (.ofNat 1), (.ofNat 9223372036854775807))]) 200 Tryz.f3 GG (rest3 9) L3bK5 = true := by kernel_rfl
theorem fibK7m : finOk (EY.with [(.var 0, (.ofNat 7), (.ofNat 7)), (.var 1, (.negSucc 9223372036854775807), (.negSucc 0))]) 200 Tryz.f3 GG (rest3 9) L3bK7 = true := by kernel_rfl
theorem fibK7p : finOk (EY.with [(.var 0, (.ofNat 7), (.ofNat 7)), (.var 1, (.ofNat 1), (.ofNat 9223372036854775807))]) 200 Tryz.f3 GG (rest3 9) L3bK7 = true := by kernel_rfl
theorem fibK8m : finOk (EY.with [(.var 0, (.ofNat 8), (.ofNat 9)), (.var 1, (.negSucc 9223372036854775807), (.negSucc 0))]) 200 Tryz.f3 GG (rest3 9) L3bK8 = true := by kernel_rfl
theorem fibK8p : finOk (EY.with [(.var 0, (.ofNat 8), (.ofNat 9)), (.var 1, (.ofNat 1), (.ofNat 9223372036854775807))]) 200 Tryz.f3 GG (rest3 9) L3bK8 = true := by kernel_rfl
theorem fibK10m : finOk (EY.with [(.var 0, (.ofNat 10), (.ofNat 10)), (.var 1, (.negSucc 9223372036854775807), (.negSucc 0))]) 200 Tryz.f3 GG (rest3 9) L3bK10 = true := by kernel_rfl
theorem fibK10p : finOk (EY.with [(.var 0, (.ofNat 10), (.ofNat 10)), (.var 1, (.ofNat 1), (.ofNat 9223372036854775807))]) 200 Tryz.f3 GG (rest3 9) L3bK10 = true := by kernel_rfl
theorem fibK11m : finOk (EY.with [(.var 0, (.ofNat 11), (.ofNat 9223372036854775807)), (.var 1, (.negSucc 9223372036854775807), (.negSucc 0))]) 200 Tryz.f3 GG (rest3 9) L3bK11 = true := by kernel_rfl
theorem fibK11p : finOk (EY.with [(.var 0, (.ofNat 11), (.ofNat 9223372036854775807)), (.var 1, (.ofNat 1), (.ofNat 9223372036854775807))]) 200 Tryz.f3 GG (rest3 9) L3bK11 = true := by kernel_rfl
end Go.Proofs.YtnccicagemmjeaaGreatDoor
