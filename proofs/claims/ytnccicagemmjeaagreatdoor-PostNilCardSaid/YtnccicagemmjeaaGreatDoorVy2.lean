/- The first stage. -/
import Derived.Test.YtnccicagemmjeaaGreatDoorVy1
namespace Go.Proofs.YtnccicagemmjeaaGreatDoor
open Go Go.Vx
set_option maxRecDepth 1000000
noncomputable def extY (f : FuncId) : Option Ext := Bool.rec (motive := fun _ => Option Ext) (Bool.rec (motive := fun _ => Option Ext) none (some (.ret true)) (Nat.beq f 4)) (some .mapsClone) (Nat.beq f 158)
noncomputable def EY : Env := { P := Tryz.prog, T := typT, F := funT, facts := [], ext := extY }
def L0 : Vx.Lit := { tm := [(0, .sym .i64 (.var 0)), (1, .sym .i64 (.var 1))], hp := [], gr := [], nx := 0 }
def L1 : Vx.Lit where
  tm := [(0, (.sym .i64 (.var 0))), (1, (.sym .i64 (.var 1))), (4, (.bool false)), (5, (.ptr 0 0)), (6, (.slc 1015 0 13 (.rest 0))), (21, (.bool false)), (24, (.bool false))]
  hp := [(0, (.row [(.slc 946 0 2 (.rest 0)), (.slc 948 0 2 (.rest 0)), (.nil .s), (.nil .s), (.nil .s)] 5 0 0)),
    (1, (.mapo [⟨(.int .u64 (.ofNat 1)), (.slc 277 0 32 (.rest 0)), 0⟩] 1)),
    (2, (.row [(.mp 1), (.int .i64 (.ofNat 200000)), (.bool false), (.bool false), (.int .i64 (.ofNat 0)), (.int .i64 (.ofNat 0))] 6 2 0)),
    (126, (.row [(.ptr 2 0), (.int .i64 (.ofNat 9000)), (.int .u64 (.ofNat 1)), (.slc 141 1 13 (.rest 1)), (.slc 281 0 1 (.rest 0)), (.int .i64 (.ofNat 32)), (.bool false)] 7 126 0)),
    (141, (.row [(.int .u8 (.ofNat 1)), (.int .u8 (.ofNat 3)), (.int .u8 (.ofNat 1)), (.int .u8 (.ofNat 48)), (.int .u8 (.ofNat 0)), (.int .u8 (.ofNat 5)), (.int .u8 (.ofNat 0)), (.int .u8 (.ofNat 0)), (.int .u8 (.ofNat 0)), (.int .u8 (.ofNat 0)), (.int .u8 (.ofNat 0)), (.int .u8 (.ofNat 0)), (.int .u8 (.ofNat 0)), (.int .u8 (.ofNat 0))] 1 141 0)),
    (209, (.row [(.ptr 215 0), (.ptr 218 0), (.int .i64 (.negSucc 0)), (.bool false), (.int .u64 (.ofNat 1)), (.ptr 126 0)] 6 209 0)),
    (214, (.mapo [] 0)),
    (215, (.row [(.bool true), (.nil .p), (.int .u64 (.ofNat 0)), (.nil .p), (.mp 214)] 5 215 0)),
    (216, (.mapo [] 0)),
    (217, (.mapo [] 0)),
    (218, (.row [(.int .i64 (.ofNat 0)), (.int .u64 (.ofNat 0)), (.nil .s), (.mp 216), (.mp 217)] 5 218 0)),
    (277, (.row [(.int .u8 (.ofNat 14)), (.int .u8 (.ofNat 0)), (.int .u8 (.ofNat 0)), (.int .u8 (.ofNat 0)), (.int .u8 (.ofNat 64)), (.int .u8 (.ofNat 18)), (.int .u8 (.ofNat 171)), (.int .u8 (.ofNat 167)), (.int .u8 (.ofNat 1)), (.int .u8 (.ofNat 3)), (.int .u8 (.ofNat 1)), (.int .u8 (.ofNat 48)), (.int .u8 (.ofNat 0)), (.int .u8 (.ofNat 5)), (.int .u8 (.ofNat 0)), (.int .u8 (.ofNat 0)), (.int .u8 (.ofNat 0)), (.int .u8 (.ofNat 0)), (.int .u8 (.ofNat 0)), (.int .u8 (.ofNat 0)), (.int .u8 (.ofNat 0)), (.int .u8 (.ofNat 0)), (.int .u8 (.ofNat 2)), (.int .u8 (.ofNat 0)), (.int .u8 (.ofNat 0)), (.int .u8 (.ofNat 0)), (.int .u8 (.ofNat 32)), (.int .u8 (.ofNat 217)), (.int .u8 (.ofNat 216)), (.int .u8 (.ofNat 107)), (.int .u8 (.ofNat 0)), (.int .u8 (.ofNat 11))] 1 277 0)),
    (279, (.row [(.int .u8 (.ofNat 11))] 1 279 0)),
    (281, (.row [(.slc 279 0 1 (.rest 0))] 1 281 0)),
    (283, (.mapo [] 0)),
    (284, (.row [(.mp 283)] 1 284 0)),
    (285, (.row [(.nil .s)] 1 285 0)),
    (286, (.row [(.ptr 209 0), (.ptr 284 0), (.ptr 285 0), (.int .u64 (.ofNat 1048576)), (.int .u64 (.ofNat 0))] 5 286 0)),
    (287, (.row [(.slc 378 0 1 (.rest 0)), (.int .i64 (.ofNat 200000)), (.bool false), (.bool false), (.int .i64 (.ofNat 0)), (.int .i64 (.ofNat 0))] 6 287 0)),
    (291, (.row [(.int .i64 (.ofNat 1)), (.nil .p), (.nil .p)] 3 291 0)),
    (292, (.row [(.int .u64 (.ofNat 0)), (.nil .p), (.nil .p)] 3 292 0)),
    (293, (.row [(.ptr 291 0), (.ptr 292 0), (.nil .s)] 3 293 0)),
    (294, (.row [(.int .i64 (.ofNat 0)), (.int .u64 (.ofNat 0)), (.nil .s), (.nil .s), (.nil .s)] 5 294 0)),
    (378, (.row [(.int .u64 (.ofNat 1)), (.slc 447 0 32 (.rest 0))] 2 378 0)),
    (392, (.row [(.ptr 399 0), (.ptr 400 0), (.int .i64 (.negSucc 0)), (.bool false), (.int .u64 (.ofNat 1)), (.nil .s), (.ptr 287 0), (.int .i64 (.ofNat 9000)), (.slc 453 0 2 (.rest 0))] 9 392 0)),
    (399, (.row [(.ptr 291 0), (.ptr 292 0), (.nil .s)] 3 399 0)),
    (400, (.row [(.int .i64 (.ofNat 0)), (.int .u64 (.ofNat 0)), (.nil .s), (.nil .s), (.nil .s)] 5 400 0)),
    (447, (.row [(.int .u8 (.ofNat 14)), (.int .u8 (.ofNat 0)), (.int .u8 (.ofNat 0)), (.int .u8 (.ofNat 0)), (.int .u8 (.ofNat 64)), (.int .u8 (.ofNat 18)), (.int .u8 (.ofNat 171)), (.int .u8 (.ofNat 167)), (.int .u8 (.ofNat 1)), (.int .u8 (.ofNat 3)), (.int .u8 (.ofNat 1)), (.int .u8 (.ofNat 48)), (.int .u8 (.ofNat 0)), (.int .u8 (.ofNat 5)), (.int .u8 (.ofNat 0)), (.int .u8 (.ofNat 0)), (.int .u8 (.ofNat 0)), (.int .u8 (.ofNat 0)), (.int .u8 (.ofNat 0)), (.int .u8 (.ofNat 0)), (.int .u8 (.ofNat 0)), (.int .u8 (.ofNat 0)), (.int .u8 (.ofNat 2)), (.int .u8 (.ofNat 0)), (.int .u8 (.ofNat 0)), (.int .u8 (.ofNat 0)), (.int .u8 (.ofNat 32)), (.int .u8 (.ofNat 217)), (.int .u8 (.ofNat 216)), (.int .u8 (.ofNat 107)), (.int .u8 (.ofNat 0)), (.int .u8 (.ofNat 11))] 1 446 0)),
    (453, (.row [(.int .u64 (.ofNat 1)), (.int .i64 (.ofNat 0)), (.ptr 293 0), (.ptr 294 0), (.int .i64 (.negSucc 0)), (.bool false), (.int .u64 (.ofNat 0)), (.nil .s), (.int .u64 (.ofNat 1)), (.int .i64 (.ofNat 1)), (.ptr 399 0), (.ptr 400 0), (.int .i64 (.negSucc 0)), (.bool false), (.int .u64 (.ofNat 1)), (.nil .s)] 8 451 0)),
    (471, (.row [(.nil .s)] 1 471 0)),
    (472, (.row [(.ptr 392 0), (.ptr 471 0), (.nil .s), (.int .u64 (.ofNat 1048576)), (.int .u64 (.ofNat 0))] 5 472 0)),
    (477, (.mapo [⟨(.int .u64 (.ofNat 1)), (.slc 750 0 32 (.rest 0)), 0⟩] 1)),
    (478, (.row [(.mp 477), (.int .i64 (.ofNat 200000)), (.bool false), (.bool false), (.int .i64 (.ofNat 0)), (.int .i64 (.ofNat 0))] 6 478 0)),
    (599, (.row [(.ptr 478 0), (.int .i64 (.ofNat 9000)), (.int .u64 (.ofNat 1)), (.slc 614 1 13 (.rest 1)), (.slc 754 0 1 (.rest 0)), (.int .i64 (.ofNat 32)), (.bool false)] 7 599 0)),
    (614, (.row [(.int .u8 (.ofNat 1)), (.int .u8 (.ofNat 3)), (.int .u8 (.ofNat 1)), (.int .u8 (.ofNat 16)), (.int .u8 (.ofNat 0)), (.int .u8 (.ofNat 5)), (.int .u8 (.ofNat 1)), (.int .u8 (.ofNat 0)), (.int .u8 (.ofNat 0)), (.int .u8 (.ofNat 0)), (.int .u8 (.ofNat 0)), (.int .u8 (.ofNat 1)), (.int .u8 (.ofNat 0)), (.int .u8 (.ofNat 0))] 1 614 0)),
    (682, (.row [(.ptr 688 0), (.ptr 691 0), (.int .i64 (.ofNat 0)), (.bool false), (.int .u64 (.ofNat 1)), (.ptr 599 0)] 6 682 0)),
    (687, (.mapo [] 0)),
    (688, (.row [(.bool false), (.nil .p), (.int .u64 (.ofNat 0)), (.nil .p), (.mp 687)] 5 688 0)),
    (689, (.mapo [] 0)),
    (690, (.mapo [] 0)),
    (691, (.row [(.int .i64 (.ofNat 1)), (.int .u64 (.ofNat 0)), (.nil .s), (.mp 689), (.mp 690)] 5 691 0)),
    (750, (.row [(.int .u8 (.ofNat 14)), (.int .u8 (.ofNat 0)), (.int .u8 (.ofNat 0)), (.int .u8 (.ofNat 0)), (.int .u8 (.ofNat 62)), (.int .u8 (.ofNat 247)), (.int .u8 (.ofNat 95)), (.int .u8 (.ofNat 236)), (.int .u8 (.ofNat 1)), (.int .u8 (.ofNat 3)), (.int .u8 (.ofNat 1)), (.int .u8 (.ofNat 16)), (.int .u8 (.ofNat 0)), (.int .u8 (.ofNat 5)), (.int .u8 (.ofNat 1)), (.int .u8 (.ofNat 0)), (.int .u8 (.ofNat 0)), (.int .u8 (.ofNat 0)), (.int .u8 (.ofNat 0)), (.int .u8 (.ofNat 1)), (.int .u8 (.ofNat 0)), (.int .u8 (.ofNat 0)), (.int .u8 (.ofNat 2)), (.int .u8 (.ofNat 0)), (.int .u8 (.ofNat 0)), (.int .u8 (.ofNat 0)), (.int .u8 (.ofNat 32)), (.int .u8 (.ofNat 217)), (.int .u8 (.ofNat 216)), (.int .u8 (.ofNat 107)), (.int .u8 (.ofNat 0)), (.int .u8 (.ofNat 11))] 1 750 0)),
    (752, (.row [(.int .u8 (.ofNat 11))] 1 752 0)),
    (754, (.row [(.slc 752 0 1 (.rest 0))] 1 754 0)),
    (756, (.mapo [] 0)),
    (757, (.row [(.mp 756)] 1 757 0)),
    (758, (.row [(.nil .s)] 1 758 0)),
    (759, (.row [(.ptr 682 0), (.ptr 757 0), (.ptr 758 0), (.int .u64 (.ofNat 1048576)), (.int .u64 (.ofNat 0))] 5 759 0)),
    (760, (.row [(.slc 850 0 1 (.rest 0)), (.int .i64 (.ofNat 200000)), (.bool false), (.bool false), (.int .i64 (.ofNat 0)), (.int .i64 (.ofNat 0))] 6 760 0)),
    (763, (.row [(.int .i64 (.ofNat 0)), (.nil .p), (.nil .p)] 3 763 0)),
    (764, (.row [(.int .u64 (.ofNat 0)), (.nil .p), (.nil .p)] 3 764 0)),
    (765, (.row [(.ptr 763 0), (.ptr 764 0), (.nil .s)] 3 765 0)),
    (766, (.row [(.int .i64 (.ofNat 1)), (.int .u64 (.ofNat 0)), (.nil .s), (.nil .s), (.nil .s)] 5 766 0)),
    (850, (.row [(.int .u64 (.ofNat 1)), (.slc 919 0 32 (.rest 0))] 2 850 0)),
    (864, (.row [(.ptr 871 0), (.ptr 872 0), (.int .i64 (.ofNat 0)), (.bool false), (.int .u64 (.ofNat 1)), (.nil .s), (.ptr 760 0), (.int .i64 (.ofNat 9000)), (.slc 925 0 2 (.rest 0))] 9 864 0)),
    (871, (.row [(.ptr 763 0), (.ptr 764 0), (.nil .s)] 3 871 0)),
    (872, (.row [(.int .i64 (.ofNat 1)), (.int .u64 (.ofNat 0)), (.nil .s), (.nil .s), (.nil .s)] 5 872 0)),
    (919, (.row [(.int .u8 (.ofNat 14)), (.int .u8 (.ofNat 0)), (.int .u8 (.ofNat 0)), (.int .u8 (.ofNat 0)), (.int .u8 (.ofNat 62)), (.int .u8 (.ofNat 247)), (.int .u8 (.ofNat 95)), (.int .u8 (.ofNat 236)), (.int .u8 (.ofNat 1)), (.int .u8 (.ofNat 3)), (.int .u8 (.ofNat 1)), (.int .u8 (.ofNat 16)), (.int .u8 (.ofNat 0)), (.int .u8 (.ofNat 5)), (.int .u8 (.ofNat 1)), (.int .u8 (.ofNat 0)), (.int .u8 (.ofNat 0)), (.int .u8 (.ofNat 0)), (.int .u8 (.ofNat 0)), (.int .u8 (.ofNat 1)), (.int .u8 (.ofNat 0)), (.int .u8 (.ofNat 0)), (.int .u8 (.ofNat 2)), (.int .u8 (.ofNat 0)), (.int .u8 (.ofNat 0)), (.int .u8 (.ofNat 0)), (.int .u8 (.ofNat 32)), (.int .u8 (.ofNat 217)), (.int .u8 (.ofNat 216)), (.int .u8 (.ofNat 107)), (.int .u8 (.ofNat 0)), (.int .u8 (.ofNat 11))] 1 918 0)),
    (925, (.row [(.int .u64 (.ofNat 1)), (.int .i64 (.ofNat 0)), (.ptr 765 0), (.ptr 766 0), (.int .i64 (.ofNat 0)), (.bool false), (.int .u64 (.ofNat 0)), (.nil .s), (.int .u64 (.ofNat 1)), (.int .i64 (.ofNat 1)), (.ptr 871 0), (.ptr 872 0), (.int .i64 (.ofNat 0)), (.bool false), (.int .u64 (.ofNat 1)), (.nil .s)] 8 923 0)),
    (943, (.row [(.nil .s)] 1 943 0)),
    (944, (.row [(.ptr 864 0), (.ptr 943 0), (.nil .s), (.int .u64 (.ofNat 1048576)), (.int .u64 (.ofNat 0))] 5 944 0)),
    (946, (.row [(.ptr 286 0), (.ptr 759 0)] 1 474 0)),
    (948, (.row [(.ptr 472 0), (.ptr 944 0)] 1 476 0)),
    (1015, (.row [(.int .u8 (.ofNat 3)), (.int .u8 (.ofNat 1)), (.int .u8 (.ofNat 48)), (.int .u8 (.ofNat 0)), (.int .u8 (.ofNat 5)), (.int .u8 (.ofNat 0)), (.int .u8 (.ofNat 0)), (.int .u8 (.ofNat 0)), (.int .u8 (.ofNat 0)), (.int .u8 (.ofNat 0)), (.int .u8 (.ofNat 0)), (.int .u8 (.ofNat 0)), (.int .u8 (.ofNat 1))] 1 1015 0))]
  gr := [(446, [447]), (451, [453]), (918, [919]), (923, [925]), (474, [946]), (476, [948])]
  nx := 1016

noncomputable def body3 : Code := match Tryz.f3.body with | some c => c | none => .skip
/-- the rest of the body behind so many statements -/
noncomputable def rest3 (n : Nat) : Code := (spineN n body3).2
def GG : Nat := 83076749736557242056487941287099763
theorem st1 : stageOk (EY.with []) 200 Tryz.f3 GG (spineN 5 body3).1 L0 L1 = true := by kernel_rfl
end Go.Proofs.YtnccicagemmjeaaGreatDoor
