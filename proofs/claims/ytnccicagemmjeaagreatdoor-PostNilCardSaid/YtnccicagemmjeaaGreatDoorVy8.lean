/- 'kinfolklaw19.PostNil', the tied card: for every input the call returns true, and the input reads as it did. Conditions: the listed package variables (unicode/utf8.acceptRanges, unicode/utf8.first) start as the program's text lays them, which the card ties to that text. -/
import Derived.Test.YtnccicagemmjeaaGreatDoorVy7
import Derived.Test.YtnccicagemmjeaaGreatDoorCards
import Derived.Test.YtnccicagemmjeaaGreatDoorTie
import Derived.SevenTiedAt
namespace Go.Proofs.YtnccicagemmjeaaGreatDoor
open Go Go.Vx
theorem stand3 : ([3].all fun u => !Tryz.prog.wantsStandIn u) = true := by kernel_rfl
theorem postNil_card_holds : Rows.PostNilCardSaid :=
  Claim7.holds_tied_plain_at .later [] [.data, .pinned] true (true, "eb8af5f09f03b59517f64572f304a9cadca7d0c4ced6e3c5ac8db614f40af388") true row_holds (fun _ h => by cases h) (by kernel_rfl) (fun _ h => by cases h) postNil_row_tie rfl ⟨rfl, rfl⟩ (by kernel_rfl) rfl
    (fun f fn hf hfn => by
      obtain rfl : f = 3 := Option.some.inj (named3.symm.trans hf) |>.symm
      obtain rfl : fn = Tryz.f3 := (Option.some.inj (Tryz.func3.symm.trans hfn)).symm
      exact ⟨by kernel_rfl, fun j t ht => by
        rw [Tryz.params3] at ht
        have hm : t ∈ [3] := by
          have := Array.mem_of_getElem? ht
          simpa using this
        exact (show Tryz.prog.wantsStandIn t = false by simpa using List.all_eq_true.1 stand3 t hm)⟩)
    goesAtF
#print axioms postNil_card_holds
end Go.Proofs.YtnccicagemmjeaaGreatDoor
