/- 'kinfolklaw19.PostNil': whatever the two numbers, the call returns true: the runs by cases, put together. -/
import Derived.Test.YtnccicagemmjeaaGreatDoorVy5a
import Derived.Test.YtnccicagemmjeaaGreatDoorVy5b
import Derived.ProofKit
import Derived.Test.YtnccicagemmjeaaGreatDoorVy1b
namespace Go.Proofs.YtnccicagemmjeaaGreatDoor
open Go Go.Vx
set_option maxRecDepth 1000000
theorem noNum : (Tryz.funcs.toList.all fun fn => !(fn.name == "runtime.NumGoroutine")) = true := by kernel_rfl
theorem mixedY : Tryz.prog.follows .mixedOrders = true := by kernel_rfl
theorem findNext158 : Extern.findNext Tryz.f158 = none := by kernel_rfl
theorem find158 : Extern.find Tryz.f158 = some Extern.MapsClone.clone := by kernel_rfl
theorem name158 : (Tryz.f158.name == "runtime.NumGoroutine") = false := by kernel_rfl
theorem clone158 (args : Array Value) (w : World) : (callFunc 158 args).run Tryz.prog w = ((Extern.MapsClone.clone args).run Tryz.prog w).andThen fun v w' => .ok (.value v) w' := by
  unfold callFunc
  simp only [Sem.run_bind, run_program, Result.andThen_ok, Tryz.func158, name158, Bool.false_eq_true, if_false, show Tryz.f158.body.isNone = true from rfl, if_true, findNext158, find158]
  rfl
theorem typT_ok (t : TypeId) (i : TypeInfo) (h : typT.get t = some i) : Tryz.prog.info? t = some i := by
  have h : (mkTrF Tryz.types.toList 0 .nil).get t = some i := h
  rw [mkTr_get] at h
  have h1 : Tryz.types[t]? = some i := by rw [← h]; simp
  show (if t < Tryz.types.size then Tryz.types[t]? else Made.infoAt Tryz.progTables Made.depth t) = some i
  rw [if_pos (Array.getElem?_eq_some_iff.1 h1).1, h1]
theorem funT_ok (f : FuncId) (fn : Func) (h : funT.get f = some fn) : Tryz.prog.funcs[f]? = some fn ∧ (fn.name == "runtime.NumGoroutine") = false := by
  have h : (mkTrF Tryz.funcs.toList 0 .nil).get f = some fn := h
  rw [mkTr_get] at h
  refine ⟨?_, ?_⟩
  · show Tryz.funcs[f]? = some fn
    rw [← h]; simp
  · have := List.all_eq_true.1 noNum fn (List.mem_of_getElem? h)
    simpa using this
theorem ext158 {f : FuncId} {fn : Func} (hf : f = 158) (hF : funT.get f = some fn) (args : Array Value) (w : World) : (callFunc f args).run Tryz.prog w = ((Extern.MapsClone.clone args).run Tryz.prog w).andThen fun v w' => .ok (.value v) w' := by
  subst hf; exact clone158 args w
theorem E0_ok : EnvOk E0 := by
  refine ⟨typT_ok, funT_ok, fun f fn hf hF _ args w => ?_, mixedY, fun f b hf => ?_⟩
  · refine ext158 ?_ hF args w
    have hf : extB f = some .mapsClone := hf
    unfold extB at hf
    cases hb : Nat.beq f 158 with
    | true => exact Nat.eq_of_beq_eq_true hb
    | false => rw [hb] at hf; cases hf
  · have hf : extB f = some (.ret b) := hf
    unfold extB at hf
    cases hb : Nat.beq f 158 with
    | true => rw [hb] at hf; cases hf
    | false => rw [hb] at hf; cases hf
theorem awake_ok (m : Ren) (s : St) (w : World) (hR : Rel m s w.heap) (n : Nat) : CallsIn Fence.wide n Tryz.prog 4 #[] w fun e w' => e = .returned (.bool true) ∧ Rel m s w'.heap ∧ Grow m s w m s w' := by
  have hno : ∀ b o, s00.hp.get b = some o → False := by
    intro b o hb
    have e : s00.hp.get b = none := by show (Tr.nil : Tr HO).get b = none; unfold Tr.get Tr.getF; rfl
    rw [e] at hb; cases hb
  have hR0 : Rel m s00 w.heap := ⟨fun b o hb => (hno b o hb).elim, fun b o hb => (hno b o hb).elim, fun b b' o o' _ hb => (hno b o hb).elim, fun b o g p hb => (hno b o hb).elim, fun g _ => by show (Tr.nil : Tr (List Nat)).get g = none; unfold Tr.get Tr.getF; rfl⟩
  have hrun := awake_run
  unfold isT at hrun
  cases hc : callX E0 200 4 [] s00 with
  | fail => rw [hc] at hrun; cases hrun
  | ok v s' =>
    rw [hc] at hrun
    have hv : v = .bool true := by
      cases v <;> try (cases hrun; done)
      rename_i b
      cases b
      · cases hrun
      · rfl
    refine (call_sound E0_ok hc m w hR0 (fun e lo hi h => by cases h) trivial n).mono ?_
    rintro e w' ⟨m', rfl, hR', hG, _⟩
    have hfr : ∀ k, k < w.heap.size → w'.heap[k]? = w.heap[k]? := fun k hk => hG.frame k hk fun b o hb => (hno b o hb).elim
    exact ⟨by rw [hv]; rfl, rel_grow hR (.refl _ _) hfr, .refl _ _, Nat.le_refl _, hG.size, fun k hk _ => hfr k hk, fun b o hb hl => .inl ⟨b, o, hb, hl, rfl⟩, hG.os, hG.tape, hG.output⟩
theorem EY_ok : EnvOk EY := by
  refine ⟨typT_ok, funT_ok, fun f fn hf hF _ args w => ?_, mixedY, fun f b hf => ?_⟩
  · refine ext158 ?_ hF args w
    have hf : extY f = some .mapsClone := hf
    unfold extY at hf
    cases hb : Nat.beq f 158 with
    | true => exact Nat.eq_of_beq_eq_true hb
    | false =>
      rw [hb] at hf
      cases hb4 : Nat.beq f 4 with
      | true => rw [hb4] at hf; cases hf
      | false => rw [hb4] at hf; cases hf
  · have hf : extY f = some (.ret b) := hf
    unfold extY at hf
    cases hb : Nat.beq f 158 with
    | true => rw [hb] at hf; cases hf
    | false =>
      rw [hb] at hf
      cases hb4 : Nat.beq f 4 with
      | true =>
        rw [hb4] at hf
        cases hf
        have := Nat.eq_of_beq_eq_true hb4
        subst this
        exact awake_ok
      | false => rw [hb4] at hf; cases hf
/-! ### The cases -/
def inI (n : Int) : Prop := -9223372036854775808 ≤ n ∧ n ≤ 9223372036854775807
theorem facts1 {X : (Nat → Int) → Prop} {i : Nat} {lo hi : Int} (x y : Int) (hlo : lo = x) (hhi : hi = y) (h : ∀ ρ, X ρ → x ≤ ρ i ∧ ρ i ≤ y) : ∀ ρ, X ρ → FactsOk (EY.with [(.var i, lo, hi)]) ρ := by
  intro ρ hx e a b hm
  subst hlo; subst hhi
  have hm : (e, a, b) ∈ [((.var i : SE), lo, hi)] := hm
  rw [List.mem_singleton] at hm
  cases hm
  exact h ρ hx
theorem facts2 {X : (Nat → Int) → Prop} {i j : Nat} {lo hi lo' hi' : Int} (x y x' y' : Int) (hlo : lo = x) (hhi : hi = y) (hlo' : lo' = x') (hhi' : hi' = y') (h : ∀ ρ, X ρ → (x ≤ ρ i ∧ ρ i ≤ y) ∧ x' ≤ ρ j ∧ ρ j ≤ y') : ∀ ρ, X ρ → FactsOk (EY.with [(.var i, lo, hi), (.var j, lo', hi')]) ρ := by
  intro ρ hx e a b hm
  subst hlo; subst hhi; subst hlo'; subst hhi'
  have hm : (e, a, b) ∈ [((.var i : SE), lo, hi), (.var j, lo', hi')] := hm
  rcases List.mem_cons.1 hm with hm | hm
  · cases hm; exact (h ρ hx).1
  · rw [List.mem_singleton] at hm
    cases hm; exact (h ρ hx).2
/-- kind, and to -/
def XX (p q : Int → Prop) (ρ : Nat → Int) : Prop := (inI (ρ 0) ∧ inI (ρ 1)) ∧ p (ρ 0) ∧ q (ρ 1)
theorem rest_5 : (spineN 5 body3).2 = rest3 5 := rfl
theorem rest_0 (n : Nat) : (spineN 0 (rest3 n)).2 = rest3 n := by rfl
theorem rest_7 : (spineN 2 (rest3 5)).2 = rest3 7 := by kernel_rfl
theorem rest_9 : (spineN 2 (rest3 7)).2 = rest3 9 := by kernel_rfl
abbrev Gd (p q : Int → Prop) (L : Vx.Lit) (n : Nat) : Prop := Vx.Good EY (XX p q) Tryz.f3 GG L (rest3 n)
theorem Gd.or {p p1 p2 q : Int → Prop} {L : Vx.Lit} {n : Nat} (h : ∀ x, inI x → p x → p1 x ∨ p2 x) (h1 : Gd p1 q L n) (h2 : Gd p2 q L n) : Gd p q L n :=
  good_or (fun ρ hx => (h _ hx.1.1 hx.2.1).imp (fun k => ⟨hx.1, k, hx.2.2⟩) (fun k => ⟨hx.1, k, hx.2.2⟩)) h1 h2
theorem Gd.or2 {p q q1 q2 : Int → Prop} {L : Vx.Lit} {n : Nat} (h : ∀ x, inI x → q x → q1 x ∨ q2 x) (h1 : Gd p q1 L n) (h2 : Gd p q2 L n) : Gd p q L n :=
  good_or (fun ρ hx => (h _ hx.1.2 hx.2.2).imp (fun k => ⟨hx.1, hx.2.1, k⟩) (fun k => ⟨hx.1, hx.2.1, k⟩)) h1 h2
theorem Gd.weak {p p' q q' : Int → Prop} {L : Vx.Lit} {n : Nat} (hp : ∀ x, inI x → p x → p' x) (hq : ∀ x, inI x → q x → q' x) (h : Gd p' q' L n) : Gd p q L n :=
  good_or (fun ρ hx => .inl ⟨hx.1, hp _ hx.1.1 hx.2.1, hq _ hx.1.2 hx.2.2⟩) h h
theorem g3aK0 : Gd (fun x => (-9223372036854775808) ≤ x ∧ x ≤ 0) (fun x => x = 0) L3aK0 9 := good_fin EY_ok (facts2 (-9223372036854775808) 0 0 0 rfl rfl rfl rfl fun ρ hx => by have := hx.2; have := hx.1; simp only [inI] at *; omega) fiaK0
theorem g2aK0 : Gd (fun x => (-9223372036854775808) ≤ x ∧ x ≤ 0) (fun x => x = 0) L2a 7 := good_stage EY_ok (facts1 (-9223372036854775808) 0 rfl rfl fun ρ hx => by have := hx.2; have := hx.1; simp only [inI] at *; omega) st3aK0 (by rw [rest_9]; exact g3aK0)
theorem g3aK1 : Gd (fun x => 1 ≤ x ∧ x ≤ 1) (fun x => x = 0) L3aK1 9 := good_fin EY_ok (facts2 1 1 0 0 rfl rfl rfl rfl fun ρ hx => by have := hx.2; have := hx.1; simp only [inI] at *; omega) fiaK1
theorem g2aK1 : Gd (fun x => 1 ≤ x ∧ x ≤ 1) (fun x => x = 0) L2a 7 :=
  good_stage EY_ok (facts1 1 1 rfl rfl fun ρ hx => by have := hx.2; have := hx.1; simp only [inI] at *; omega) z3aK1 (by rw [rest_0]; exact good_stage EY_ok (facts1 1 1 rfl rfl fun ρ hx => by have := hx.2; have := hx.1; simp only [inI] at *; omega) st3aK1 (by rw [rest_9]; exact g3aK1))
theorem g3aK2 : Gd (fun x => 2 ≤ x ∧ x ≤ 2) (fun x => x = 0) L3aK2 9 := good_fin EY_ok (facts2 2 2 0 0 rfl rfl rfl rfl fun ρ hx => by have := hx.2; have := hx.1; simp only [inI] at *; omega) fiaK2
theorem g2aK2 : Gd (fun x => 2 ≤ x ∧ x ≤ 2) (fun x => x = 0) L2a 7 :=
  good_stage EY_ok (facts1 2 2 rfl rfl fun ρ hx => by have := hx.2; have := hx.1; simp only [inI] at *; omega) z3aK2 (by rw [rest_0]; exact good_stage EY_ok (facts1 2 2 rfl rfl fun ρ hx => by have := hx.2; have := hx.1; simp only [inI] at *; omega) st3aK2 (by rw [rest_9]; exact g3aK2))
theorem g3aK3 : Gd (fun x => 3 ≤ x ∧ x ≤ 3) (fun x => x = 0) L3aK3 9 := good_fin EY_ok (facts2 3 3 0 0 rfl rfl rfl rfl fun ρ hx => by have := hx.2; have := hx.1; simp only [inI] at *; omega) fiaK3
theorem g2aK3 : Gd (fun x => 3 ≤ x ∧ x ≤ 3) (fun x => x = 0) L2a 7 :=
  good_stage EY_ok (facts1 3 3 rfl rfl fun ρ hx => by have := hx.2; have := hx.1; simp only [inI] at *; omega) z3aK3 (by rw [rest_0]; exact good_stage EY_ok (facts1 3 3 rfl rfl fun ρ hx => by have := hx.2; have := hx.1; simp only [inI] at *; omega) st3aK3 (by rw [rest_9]; exact g3aK3))
theorem g3aK4 : Gd (fun x => 4 ≤ x ∧ x ≤ 4) (fun x => x = 0) L3aK4 9 := good_fin EY_ok (facts2 4 4 0 0 rfl rfl rfl rfl fun ρ hx => by have := hx.2; have := hx.1; simp only [inI] at *; omega) fiaK4
theorem g2aK4 : Gd (fun x => 4 ≤ x ∧ x ≤ 4) (fun x => x = 0) L2a 7 :=
  good_stage EY_ok (facts1 4 4 rfl rfl fun ρ hx => by have := hx.2; have := hx.1; simp only [inI] at *; omega) z3aK4 (by rw [rest_0]; exact good_stage EY_ok (facts1 4 4 rfl rfl fun ρ hx => by have := hx.2; have := hx.1; simp only [inI] at *; omega) st3aK4 (by rw [rest_9]; exact g3aK4))
theorem g3aK5 : Gd (fun x => 5 ≤ x ∧ x ≤ 6) (fun x => x = 0) L3aK5 9 := good_fin EY_ok (facts2 5 6 0 0 rfl rfl rfl rfl fun ρ hx => by have := hx.2; have := hx.1; simp only [inI] at *; omega) fiaK5
theorem g2aK5 : Gd (fun x => 5 ≤ x ∧ x ≤ 6) (fun x => x = 0) L2a 7 := good_stage EY_ok (facts1 5 6 rfl rfl fun ρ hx => by have := hx.2; have := hx.1; simp only [inI] at *; omega) st3aK5 (by rw [rest_9]; exact g3aK5)
theorem g3aK7 : Gd (fun x => 7 ≤ x ∧ x ≤ 7) (fun x => x = 0) L3aK7 9 := good_fin EY_ok (facts2 7 7 0 0 rfl rfl rfl rfl fun ρ hx => by have := hx.2; have := hx.1; simp only [inI] at *; omega) fiaK7
theorem g2aK7 : Gd (fun x => 7 ≤ x ∧ x ≤ 7) (fun x => x = 0) L2a 7 :=
  good_stage EY_ok (facts1 7 7 rfl rfl fun ρ hx => by have := hx.2; have := hx.1; simp only [inI] at *; omega) z3aK7 (by rw [rest_0]; exact good_stage EY_ok (facts1 7 7 rfl rfl fun ρ hx => by have := hx.2; have := hx.1; simp only [inI] at *; omega) st3aK7 (by rw [rest_9]; exact g3aK7))
theorem g3aK8 : Gd (fun x => 8 ≤ x ∧ x ≤ 9) (fun x => x = 0) L3aK8 9 := good_fin EY_ok (facts2 8 9 0 0 rfl rfl rfl rfl fun ρ hx => by have := hx.2; have := hx.1; simp only [inI] at *; omega) fiaK8
theorem g2aK8 : Gd (fun x => 8 ≤ x ∧ x ≤ 9) (fun x => x = 0) L2a 7 := good_stage EY_ok (facts1 8 9 rfl rfl fun ρ hx => by have := hx.2; have := hx.1; simp only [inI] at *; omega) st3aK8 (by rw [rest_9]; exact g3aK8)
theorem g3aK10 : Gd (fun x => 10 ≤ x ∧ x ≤ 10) (fun x => x = 0) L3aK10 9 := good_fin EY_ok (facts2 10 10 0 0 rfl rfl rfl rfl fun ρ hx => by have := hx.2; have := hx.1; simp only [inI] at *; omega) fiaK10
theorem g2aK10 : Gd (fun x => 10 ≤ x ∧ x ≤ 10) (fun x => x = 0) L2a 7 :=
  good_stage EY_ok (facts1 10 10 rfl rfl fun ρ hx => by have := hx.2; have := hx.1; simp only [inI] at *; omega) z3aK10 (by rw [rest_0]; exact good_stage EY_ok (facts1 10 10 rfl rfl fun ρ hx => by have := hx.2; have := hx.1; simp only [inI] at *; omega) st3aK10 (by rw [rest_9]; exact g3aK10))
theorem g3aK11 : Gd (fun x => 11 ≤ x ∧ x ≤ 9223372036854775807) (fun x => x = 0) L3aK11 9 := good_fin EY_ok (facts2 11 9223372036854775807 0 0 rfl rfl rfl rfl fun ρ hx => by have := hx.2; have := hx.1; simp only [inI] at *; omega) fiaK11
theorem g2aK11 : Gd (fun x => 11 ≤ x ∧ x ≤ 9223372036854775807) (fun x => x = 0) L2a 7 := good_stage EY_ok (facts1 11 9223372036854775807 rfl rfl fun ρ hx => by have := hx.2; have := hx.1; simp only [inI] at *; omega) st3aK11 (by rw [rest_9]; exact g3aK11)
theorem ja1 : Gd (fun x => 10 ≤ x) (fun x => x = 0) L2a 7 := Gd.or (p2 := fun x => 11 ≤ x) (fun x hi h => by simp only [inI] at *; omega) g2aK10 (Gd.weak (fun x hi h => by simp only [inI] at *; omega) (fun x hi h => h) g2aK11)
theorem ja2 : Gd (fun x => 8 ≤ x) (fun x => x = 0) L2a 7 := Gd.or (p2 := fun x => 10 ≤ x) (fun x hi h => by simp only [inI] at *; omega) g2aK8 (Gd.weak (fun x hi h => h) (fun x hi h => h) ja1)
theorem ja3 : Gd (fun x => 7 ≤ x) (fun x => x = 0) L2a 7 := Gd.or (p2 := fun x => 8 ≤ x) (fun x hi h => by simp only [inI] at *; omega) g2aK7 (Gd.weak (fun x hi h => h) (fun x hi h => h) ja2)
theorem ja4 : Gd (fun x => 5 ≤ x) (fun x => x = 0) L2a 7 := Gd.or (p2 := fun x => 7 ≤ x) (fun x hi h => by simp only [inI] at *; omega) g2aK5 (Gd.weak (fun x hi h => h) (fun x hi h => h) ja3)
theorem ja5 : Gd (fun x => 4 ≤ x) (fun x => x = 0) L2a 7 := Gd.or (p2 := fun x => 5 ≤ x) (fun x hi h => by simp only [inI] at *; omega) g2aK4 (Gd.weak (fun x hi h => h) (fun x hi h => h) ja4)
theorem ja6 : Gd (fun x => 3 ≤ x) (fun x => x = 0) L2a 7 := Gd.or (p2 := fun x => 4 ≤ x) (fun x hi h => by simp only [inI] at *; omega) g2aK3 (Gd.weak (fun x hi h => h) (fun x hi h => h) ja5)
theorem ja7 : Gd (fun x => 2 ≤ x) (fun x => x = 0) L2a 7 := Gd.or (p2 := fun x => 3 ≤ x) (fun x hi h => by simp only [inI] at *; omega) g2aK2 (Gd.weak (fun x hi h => h) (fun x hi h => h) ja6)
theorem ja8 : Gd (fun x => 1 ≤ x) (fun x => x = 0) L2a 7 := Gd.or (p2 := fun x => 2 ≤ x) (fun x hi h => by simp only [inI] at *; omega) g2aK1 (Gd.weak (fun x hi h => h) (fun x hi h => h) ja7)
theorem ja9 : Gd (fun x => (-9223372036854775808) ≤ x) (fun x => x = 0) L2a 7 := Gd.or (p2 := fun x => 1 ≤ x) (fun x hi h => by simp only [inI] at *; omega) g2aK0 (Gd.weak (fun x hi h => h) (fun x hi h => h) ja8)
theorem alla : Gd (fun _ => True) (fun x => x = 0) L2a 7 := Gd.weak (fun x hi h => hi.1) (fun x hi h => h) ja9
theorem g3bK0 : Gd (fun x => (-9223372036854775808) ≤ x ∧ x ≤ 0) (fun x => x ≠ 0) L3bK0 9 :=
  Gd.or2 (q1 := fun x => x ≤ -1) (q2 := fun x => 1 ≤ x) (fun x hi h => by omega)
    (good_fin EY_ok (facts2 (-9223372036854775808) 0 (-9223372036854775808) (-1) rfl rfl rfl rfl fun ρ hx => by have := hx.2; have := hx.1; simp only [inI] at *; omega) fibK0m)
    (good_fin EY_ok (facts2 (-9223372036854775808) 0 1 9223372036854775807 rfl rfl rfl rfl fun ρ hx => by have := hx.2; have := hx.1; simp only [inI] at *; omega) fibK0p)
theorem g2bK0 : Gd (fun x => (-9223372036854775808) ≤ x ∧ x ≤ 0) (fun x => x ≠ 0) L2b 7 := good_stage EY_ok (facts1 (-9223372036854775808) 0 rfl rfl fun ρ hx => by have := hx.2; have := hx.1; simp only [inI] at *; omega) st3bK0 (by rw [rest_9]; exact g3bK0)
theorem g3bK1 : Gd (fun x => 1 ≤ x ∧ x ≤ 1) (fun x => x ≠ 0) L3bK1 9 :=
  Gd.or2 (q1 := fun x => x ≤ -1) (q2 := fun x => 1 ≤ x) (fun x hi h => by omega)
    (good_fin EY_ok (facts2 1 1 (-9223372036854775808) (-1) rfl rfl rfl rfl fun ρ hx => by have := hx.2; have := hx.1; simp only [inI] at *; omega) fibK1m)
    (good_fin EY_ok (facts2 1 1 1 9223372036854775807 rfl rfl rfl rfl fun ρ hx => by have := hx.2; have := hx.1; simp only [inI] at *; omega) fibK1p)
theorem g2bK1 : Gd (fun x => 1 ≤ x ∧ x ≤ 1) (fun x => x ≠ 0) L2b 7 :=
  good_stage EY_ok (facts1 1 1 rfl rfl fun ρ hx => by have := hx.2; have := hx.1; simp only [inI] at *; omega) z3bK1 (by rw [rest_0]; exact good_stage EY_ok (facts1 1 1 rfl rfl fun ρ hx => by have := hx.2; have := hx.1; simp only [inI] at *; omega) st3bK1 (by rw [rest_9]; exact g3bK1))
theorem g3bK2 : Gd (fun x => 2 ≤ x ∧ x ≤ 2) (fun x => x ≠ 0) L3bK2 9 :=
  Gd.or2 (q1 := fun x => x ≤ -1) (q2 := fun x => 1 ≤ x) (fun x hi h => by omega)
    (good_fin EY_ok (facts2 2 2 (-9223372036854775808) (-1) rfl rfl rfl rfl fun ρ hx => by have := hx.2; have := hx.1; simp only [inI] at *; omega) fibK2m)
    (good_fin EY_ok (facts2 2 2 1 9223372036854775807 rfl rfl rfl rfl fun ρ hx => by have := hx.2; have := hx.1; simp only [inI] at *; omega) fibK2p)
theorem g2bK2 : Gd (fun x => 2 ≤ x ∧ x ≤ 2) (fun x => x ≠ 0) L2b 7 :=
  good_stage EY_ok (facts1 2 2 rfl rfl fun ρ hx => by have := hx.2; have := hx.1; simp only [inI] at *; omega) z3bK2 (by rw [rest_0]; exact good_stage EY_ok (facts1 2 2 rfl rfl fun ρ hx => by have := hx.2; have := hx.1; simp only [inI] at *; omega) st3bK2 (by rw [rest_9]; exact g3bK2))
theorem g3bK3 : Gd (fun x => 3 ≤ x ∧ x ≤ 3) (fun x => x ≠ 0) L3bK3 9 :=
  Gd.or2 (q1 := fun x => x ≤ -1) (q2 := fun x => 1 ≤ x) (fun x hi h => by omega)
    (good_fin EY_ok (facts2 3 3 (-9223372036854775808) (-1) rfl rfl rfl rfl fun ρ hx => by have := hx.2; have := hx.1; simp only [inI] at *; omega) fibK3m)
    (good_fin EY_ok (facts2 3 3 1 9223372036854775807 rfl rfl rfl rfl fun ρ hx => by have := hx.2; have := hx.1; simp only [inI] at *; omega) fibK3p)
theorem g2bK3 : Gd (fun x => 3 ≤ x ∧ x ≤ 3) (fun x => x ≠ 0) L2b 7 :=
  good_stage EY_ok (facts1 3 3 rfl rfl fun ρ hx => by have := hx.2; have := hx.1; simp only [inI] at *; omega) z3bK3 (by rw [rest_0]; exact good_stage EY_ok (facts1 3 3 rfl rfl fun ρ hx => by have := hx.2; have := hx.1; simp only [inI] at *; omega) st3bK3 (by rw [rest_9]; exact g3bK3))
theorem g3bK4 : Gd (fun x => 4 ≤ x ∧ x ≤ 4) (fun x => x ≠ 0) L3bK4 9 :=
  Gd.or2 (q1 := fun x => x ≤ -1) (q2 := fun x => 1 ≤ x) (fun x hi h => by omega)
    (good_fin EY_ok (facts2 4 4 (-9223372036854775808) (-1) rfl rfl rfl rfl fun ρ hx => by have := hx.2; have := hx.1; simp only [inI] at *; omega) fibK4m)
    (good_fin EY_ok (facts2 4 4 1 9223372036854775807 rfl rfl rfl rfl fun ρ hx => by have := hx.2; have := hx.1; simp only [inI] at *; omega) fibK4p)
theorem g2bK4 : Gd (fun x => 4 ≤ x ∧ x ≤ 4) (fun x => x ≠ 0) L2b 7 :=
  good_stage EY_ok (facts1 4 4 rfl rfl fun ρ hx => by have := hx.2; have := hx.1; simp only [inI] at *; omega) z3bK4 (by rw [rest_0]; exact good_stage EY_ok (facts1 4 4 rfl rfl fun ρ hx => by have := hx.2; have := hx.1; simp only [inI] at *; omega) st3bK4 (by rw [rest_9]; exact g3bK4))
theorem g3bK5 : Gd (fun x => 5 ≤ x ∧ x ≤ 6) (fun x => x ≠ 0) L3bK5 9 :=
  Gd.or2 (q1 := fun x => x ≤ -1) (q2 := fun x => 1 ≤ x) (fun x hi h => by omega)
    (good_fin EY_ok (facts2 5 6 (-9223372036854775808) (-1) rfl rfl rfl rfl fun ρ hx => by have := hx.2; have := hx.1; simp only [inI] at *; omega) fibK5m)
    (good_fin EY_ok (facts2 5 6 1 9223372036854775807 rfl rfl rfl rfl fun ρ hx => by have := hx.2; have := hx.1; simp only [inI] at *; omega) fibK5p)
theorem g2bK5 : Gd (fun x => 5 ≤ x ∧ x ≤ 6) (fun x => x ≠ 0) L2b 7 := good_stage EY_ok (facts1 5 6 rfl rfl fun ρ hx => by have := hx.2; have := hx.1; simp only [inI] at *; omega) st3bK5 (by rw [rest_9]; exact g3bK5)
theorem g3bK7 : Gd (fun x => 7 ≤ x ∧ x ≤ 7) (fun x => x ≠ 0) L3bK7 9 :=
  Gd.or2 (q1 := fun x => x ≤ -1) (q2 := fun x => 1 ≤ x) (fun x hi h => by omega)
    (good_fin EY_ok (facts2 7 7 (-9223372036854775808) (-1) rfl rfl rfl rfl fun ρ hx => by have := hx.2; have := hx.1; simp only [inI] at *; omega) fibK7m)
    (good_fin EY_ok (facts2 7 7 1 9223372036854775807 rfl rfl rfl rfl fun ρ hx => by have := hx.2; have := hx.1; simp only [inI] at *; omega) fibK7p)
theorem g2bK7 : Gd (fun x => 7 ≤ x ∧ x ≤ 7) (fun x => x ≠ 0) L2b 7 :=
  good_stage EY_ok (facts1 7 7 rfl rfl fun ρ hx => by have := hx.2; have := hx.1; simp only [inI] at *; omega) z3bK7 (by rw [rest_0]; exact good_stage EY_ok (facts1 7 7 rfl rfl fun ρ hx => by have := hx.2; have := hx.1; simp only [inI] at *; omega) st3bK7 (by rw [rest_9]; exact g3bK7))
theorem g3bK8 : Gd (fun x => 8 ≤ x ∧ x ≤ 9) (fun x => x ≠ 0) L3bK8 9 :=
  Gd.or2 (q1 := fun x => x ≤ -1) (q2 := fun x => 1 ≤ x) (fun x hi h => by omega)
    (good_fin EY_ok (facts2 8 9 (-9223372036854775808) (-1) rfl rfl rfl rfl fun ρ hx => by have := hx.2; have := hx.1; simp only [inI] at *; omega) fibK8m)
    (good_fin EY_ok (facts2 8 9 1 9223372036854775807 rfl rfl rfl rfl fun ρ hx => by have := hx.2; have := hx.1; simp only [inI] at *; omega) fibK8p)
theorem g2bK8 : Gd (fun x => 8 ≤ x ∧ x ≤ 9) (fun x => x ≠ 0) L2b 7 := good_stage EY_ok (facts1 8 9 rfl rfl fun ρ hx => by have := hx.2; have := hx.1; simp only [inI] at *; omega) st3bK8 (by rw [rest_9]; exact g3bK8)
theorem g3bK10 : Gd (fun x => 10 ≤ x ∧ x ≤ 10) (fun x => x ≠ 0) L3bK10 9 :=
  Gd.or2 (q1 := fun x => x ≤ -1) (q2 := fun x => 1 ≤ x) (fun x hi h => by omega)
    (good_fin EY_ok (facts2 10 10 (-9223372036854775808) (-1) rfl rfl rfl rfl fun ρ hx => by have := hx.2; have := hx.1; simp only [inI] at *; omega) fibK10m)
    (good_fin EY_ok (facts2 10 10 1 9223372036854775807 rfl rfl rfl rfl fun ρ hx => by have := hx.2; have := hx.1; simp only [inI] at *; omega) fibK10p)
theorem g2bK10 : Gd (fun x => 10 ≤ x ∧ x ≤ 10) (fun x => x ≠ 0) L2b 7 :=
  good_stage EY_ok (facts1 10 10 rfl rfl fun ρ hx => by have := hx.2; have := hx.1; simp only [inI] at *; omega) z3bK10 (by rw [rest_0]; exact good_stage EY_ok (facts1 10 10 rfl rfl fun ρ hx => by have := hx.2; have := hx.1; simp only [inI] at *; omega) st3bK10 (by rw [rest_9]; exact g3bK10))
theorem g3bK11 : Gd (fun x => 11 ≤ x ∧ x ≤ 9223372036854775807) (fun x => x ≠ 0) L3bK11 9 :=
  Gd.or2 (q1 := fun x => x ≤ -1) (q2 := fun x => 1 ≤ x) (fun x hi h => by omega)
    (good_fin EY_ok (facts2 11 9223372036854775807 (-9223372036854775808) (-1) rfl rfl rfl rfl fun ρ hx => by have := hx.2; have := hx.1; simp only [inI] at *; omega) fibK11m)
    (good_fin EY_ok (facts2 11 9223372036854775807 1 9223372036854775807 rfl rfl rfl rfl fun ρ hx => by have := hx.2; have := hx.1; simp only [inI] at *; omega) fibK11p)
theorem g2bK11 : Gd (fun x => 11 ≤ x ∧ x ≤ 9223372036854775807) (fun x => x ≠ 0) L2b 7 := good_stage EY_ok (facts1 11 9223372036854775807 rfl rfl fun ρ hx => by have := hx.2; have := hx.1; simp only [inI] at *; omega) st3bK11 (by rw [rest_9]; exact g3bK11)
theorem jb1 : Gd (fun x => 10 ≤ x) (fun x => x ≠ 0) L2b 7 := Gd.or (p2 := fun x => 11 ≤ x) (fun x hi h => by simp only [inI] at *; omega) g2bK10 (Gd.weak (fun x hi h => by simp only [inI] at *; omega) (fun x hi h => h) g2bK11)
theorem jb2 : Gd (fun x => 8 ≤ x) (fun x => x ≠ 0) L2b 7 := Gd.or (p2 := fun x => 10 ≤ x) (fun x hi h => by simp only [inI] at *; omega) g2bK8 (Gd.weak (fun x hi h => h) (fun x hi h => h) jb1)
theorem jb3 : Gd (fun x => 7 ≤ x) (fun x => x ≠ 0) L2b 7 := Gd.or (p2 := fun x => 8 ≤ x) (fun x hi h => by simp only [inI] at *; omega) g2bK7 (Gd.weak (fun x hi h => h) (fun x hi h => h) jb2)
theorem jb4 : Gd (fun x => 5 ≤ x) (fun x => x ≠ 0) L2b 7 := Gd.or (p2 := fun x => 7 ≤ x) (fun x hi h => by simp only [inI] at *; omega) g2bK5 (Gd.weak (fun x hi h => h) (fun x hi h => h) jb3)
theorem jb5 : Gd (fun x => 4 ≤ x) (fun x => x ≠ 0) L2b 7 := Gd.or (p2 := fun x => 5 ≤ x) (fun x hi h => by simp only [inI] at *; omega) g2bK4 (Gd.weak (fun x hi h => h) (fun x hi h => h) jb4)
theorem jb6 : Gd (fun x => 3 ≤ x) (fun x => x ≠ 0) L2b 7 := Gd.or (p2 := fun x => 4 ≤ x) (fun x hi h => by simp only [inI] at *; omega) g2bK3 (Gd.weak (fun x hi h => h) (fun x hi h => h) jb5)
theorem jb7 : Gd (fun x => 2 ≤ x) (fun x => x ≠ 0) L2b 7 := Gd.or (p2 := fun x => 3 ≤ x) (fun x hi h => by simp only [inI] at *; omega) g2bK2 (Gd.weak (fun x hi h => h) (fun x hi h => h) jb6)
theorem jb8 : Gd (fun x => 1 ≤ x) (fun x => x ≠ 0) L2b 7 := Gd.or (p2 := fun x => 2 ≤ x) (fun x hi h => by simp only [inI] at *; omega) g2bK1 (Gd.weak (fun x hi h => h) (fun x hi h => h) jb7)
theorem jb9 : Gd (fun x => (-9223372036854775808) ≤ x) (fun x => x ≠ 0) L2b 7 := Gd.or (p2 := fun x => 1 ≤ x) (fun x hi h => by simp only [inI] at *; omega) g2bK0 (Gd.weak (fun x hi h => h) (fun x hi h => h) jb8)
theorem allb : Gd (fun _ => True) (fun x => x ≠ 0) L2b 7 := Gd.weak (fun x hi h => hi.1) (fun x hi h => h) jb9
theorem tT0 : Gd (fun _ => True) (fun x => 0 ≤ x ∧ x ≤ 0) L1 5 := good_stage EY_ok (facts1 0 0 rfl rfl fun ρ hx => by have := hx.2; have := hx.1; simp only [inI] at *; omega) z2T0 (by rw [rest_0]; exact good_stage EY_ok (facts1 0 0 rfl rfl fun ρ hx => by have := hx.2; have := hx.1; simp only [inI] at *; omega) st2T0 (by rw [rest_7]; exact Gd.weak (fun x hi h => trivial) (fun x hi h => by omega) alla))
theorem tT1 : Gd (fun _ => True) (fun x => 1 ≤ x ∧ x ≤ 1) L1 5 := good_stage EY_ok (facts1 1 1 rfl rfl fun ρ hx => by have := hx.2; have := hx.1; simp only [inI] at *; omega) z2T1 (by rw [rest_0]; exact good_stage EY_ok (facts1 1 1 rfl rfl fun ρ hx => by have := hx.2; have := hx.1; simp only [inI] at *; omega) st2T1 (by rw [rest_7]; exact Gd.weak (fun x hi h => trivial) (fun x hi h => by omega) allb))
theorem tTm : Gd (fun _ => True) (fun x => (-9223372036854775808) ≤ x ∧ x ≤ (-1)) L1 5 := good_stage EY_ok (facts1 (-9223372036854775808) (-1) rfl rfl fun ρ hx => by have := hx.2; have := hx.1; simp only [inI] at *; omega) st2Tm (by rw [rest_7]; exact Gd.weak (fun x hi h => trivial) (fun x hi h => by omega) allb)
theorem tT2 : Gd (fun _ => True) (fun x => 2 ≤ x ∧ x ≤ 11) L1 5 := good_stage EY_ok (facts1 2 11 rfl rfl fun ρ hx => by have := hx.2; have := hx.1; simp only [inI] at *; omega) st2T2 (by rw [rest_7]; exact Gd.weak (fun x hi h => trivial) (fun x hi h => by omega) allb)
theorem tT12 : Gd (fun _ => True) (fun x => 12 ≤ x ∧ x ≤ 9223372036854775807) L1 5 := good_stage EY_ok (facts1 12 9223372036854775807 rfl rfl fun ρ hx => by have := hx.2; have := hx.1; simp only [inI] at *; omega) st2T12 (by rw [rest_7]; exact Gd.weak (fun x hi h => trivial) (fun x hi h => by omega) allb)
theorem allT : Gd (fun _ => True) (fun _ => True) L1 5 :=
  Gd.or2 (q1 := fun x => -9223372036854775808 ≤ x ∧ x ≤ -1) (q2 := fun x => 0 ≤ x) (fun x hi h => by simp only [inI] at *; omega) tTm
    (Gd.or2 (q1 := fun x => 0 ≤ x ∧ x ≤ 0) (q2 := fun x => 1 ≤ x) (fun x hi h => by omega) tT0
      (Gd.or2 (q1 := fun x => 1 ≤ x ∧ x ≤ 1) (q2 := fun x => 2 ≤ x) (fun x hi h => by omega) tT1
        (Gd.or2 (q1 := fun x => 2 ≤ x ∧ x ≤ 11) (q2 := fun x => 12 ≤ x ∧ x ≤ 9223372036854775807) (fun x hi h => by simp only [inI] at *; omega) tT2 tT12)))
theorem allG : Vx.Good EY (XX (fun _ => True) (fun _ => True)) Tryz.f3 GG L0 body3 := good_stage EY_ok (fun ρ _ => facts_nil) st1 (by rw [rest_5]; exact allT)
/-- **the walk** -/
theorem walk (a0 a1 : Int) (w0 : (Go.Lit.int .i64 a0).wf = true) (w1 : (Go.Lit.int .i64 a1).wf = true) (w : World) : Calls Tryz.prog 3 #[.int .i64 a0, .int .i64 a1] w (RetTrue w) := by
  have h0 : inI a0 := by
    simp only [Go.Lit.wf, Bool.and_eq_true, decide_eq_true_eq] at w0
    exact w0
  have h1 : inI a1 := by
    simp only [Go.Lit.wf, Bool.and_eq_true, decide_eq_true_eq] at w1
    exact w1
  have hb : Tryz.f3.body = some body3 := rfl
  have := good_call EY_ok (X := XX (fun _ => True) (fun _ => True)) (f := 3) (fn := Tryz.f3) (c := body3) (G := GG) (L := L0) (args := [.sym .i64 (.var 0), .sym .i64 (.var 1)]) Tryz.func3 hb rfl rfl (by decide) allG
    (fun i => if i = 0 then a0 else a1) ⟨⟨h0, h1⟩, trivial, trivial⟩ ⟨trivial, trivial, trivial⟩ w
  exact this
#print axioms walk
end Go.Proofs.YtnccicagemmjeaaGreatDoor
