/- The call of 'kinfolklaw19.PostNil' starts no goroutine. -/
import Derived.Test.YtnccicagemmjeaaGreatDoorVy7b
namespace Go.Vx
theorem goesAt_of {P : Program} {c : OpenClaim} {f : FuncId} (hs : c.start = .entering) (hn : P.funcNamed c.func = some f) (hg : P.goes f = false) : false = c.goesBy P := by
  unfold OpenClaim.goesBy Program.goesAt Program.goesFrom
  rw [hs, hn]
  simp [hg]
end Go.Vx
namespace Go.Proofs.YtnccicagemmjeaaGreatDoor
open Go Go.Vx
theorem goesAtF : false = Rows.postNilRow.goesBy Tryz.prog := goesAt_of rfl named3 goesF
end Go.Proofs.YtnccicagemmjeaaGreatDoor
