/- The seat's program, for the executor: its types, its functions. -/
import Derived.Test.YtnccicagemmjeaaGreatDoorVx37
import Derived.Test.YtnccicagemmjeaaGreatDoorProg
import Derived.KernelRfl
namespace Go.Vx
noncomputable def mkTrF {α : Type} (l : List α) : Nat → Tr α → Tr α :=
  List.rec (motive := fun _ => Nat → Tr α → Tr α) (fun _ t => t) (fun v _ ih i t => ih (Nat.succ i) (t.set i v)) l
theorem mkTrF_get {α : Type} (l : List α) : ∀ (i : Nat) (t : Tr α) (x : Nat), (mkTrF l i t).get x = if x < i then t.get x else match l[x - i]? with | some v => some v | none => t.get x := by
  induction l with
  | nil => intro i t x; show t.get x = _; split <;> rfl
  | cons v l ih =>
    intro i t x
    show (mkTrF l (Nat.succ i) (t.set i v)).get x = _
    rw [ih, get_set]
    by_cases h1 : x < i
    · rw [if_pos (by omega), if_pos h1, if_neg (by omega)]
    · rw [if_neg h1]
      by_cases h2 : x = i
      · subst h2; rw [if_pos (by omega), if_pos rfl]; simp
      · rw [if_neg (by omega), if_neg h2]
        obtain ⟨k, rfl⟩ : ∃ k, x = i + 1 + k := ⟨x - (i + 1), by omega⟩
        rw [show i + 1 + k - (Nat.succ i) = k by omega, show i + 1 + k - i = k + 1 by omega, List.getElem?_cons_succ]
theorem mkTr_get {α : Type} (l : List α) (x : Nat) : (mkTrF l 0 .nil).get x = l[x]? := by
  rw [mkTrF_get, if_neg (Nat.not_lt_zero _), Nat.sub_zero]
  cases l[x]? with
  | some v => rfl
  | none => unfold Tr.get Tr.getF; rfl
end Go.Vx
namespace Go.Proofs.YtnccicagemmjeaaGreatDoor
open Go Go.Vx
noncomputable def typT : Tr TypeInfo := mkTrF Tryz.types.toList 0 .nil
noncomputable def funT : Tr Func := mkTrF Tryz.funcs.toList 0 .nil
noncomputable def extB (f : FuncId) : Option Ext := Bool.rec (motive := fun _ => Option Ext) none (some .mapsClone) (Nat.beq f 158)
noncomputable def E0 : Env := { P := Tryz.prog, T := typT, F := funT, facts := [], ext := extB }
def s0 : St := { hp := .nil, nx := 0, gr := .nil, df := [] }
def okR (r : CR) : Bool := match r with | .ok _ _ => true | .fail => false
def isT (r : CR) : Bool := match r with | .ok (.bool true) _ => true | _ => false
end Go.Proofs.YtnccicagemmjeaaGreatDoor
