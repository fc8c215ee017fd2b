/- The closure of a program's calls, over a table, with a mask: so that the kernel can run it. -/
import Derived.Test.YtnccicagemmjeaaGreatDoorVx30
import Derived.JoinedOf
namespace Go.Vx
noncomputable def closB (T : Tr (List Nat)) (n : Nat) : List Nat → List Nat → Nat → List Nat :=
  Nat.rec (motive := fun _ => List Nat → List Nat → Nat → List Nat) (fun _ seen _ => seen.reverse)
    (fun _ ih todo seen m => List.rec (motive := fun _ => List Nat) seen.reverse
      (fun f todo _ => Bool.rec (motive := fun _ => List Nat) (ih (appL ((T.get f).getD []) todo) (f :: seen) (Nat.lor m (Nat.shiftLeft 1 f))) (ih todo seen m) (bit m f)) todo) n
theorem closB_eq {P : Program} {T : Tr (List Nat)} (hT : ∀ f, (P.funcs[f]?).elim [] P.leadsTo = (T.get f).getD []) : ∀ (n : Nat) (todo seen : List Nat) (m : Nat), (∀ f, bit m f = true ↔ f ∈ seen) →
    P.closureVia n todo seen = closB T n todo seen m := by
  intro n
  induction n with
  | zero => intro todo seen m _; rfl
  | succ n ih =>
    intro todo seen m hm
    cases todo with
    | nil => rfl
    | cons f todo =>
      have e1 : P.closureVia (n + 1) (f :: todo) seen = if seen.contains f = true then P.closureVia n todo seen else P.closureVia n ((P.funcs[f]?).elim [] P.leadsTo ++ todo) (f :: seen) := rfl
      have e2 : closB T (n + 1) (f :: todo) seen m = Bool.rec (motive := fun _ => List Nat) (closB T n (appL ((T.get f).getD []) todo) (f :: seen) (Nat.lor m (Nat.shiftLeft 1 f))) (closB T n todo seen m) (bit m f) := rfl
      rw [e1, e2, recB]
      by_cases hc : f ∈ seen
      · rw [if_pos (by simpa using hc), if_pos ((hm f).2 hc)]
        exact ih _ _ _ hm
      · rw [if_neg (by simpa using hc), if_neg (fun h => hc ((hm f).1 h)), hT, ← appL_eq]
        refine ih _ _ _ fun g => ?_
        rw [bit_or, Bool.or_eq_true, hm, bit_one]
        simp only [decide_eq_true_eq, List.mem_cons]
        constructor
        · rintro (h | h)
          · exact .inr h
          · exact .inl h.symm
        · rintro (h | h)
          · exact .inr h.symm
          · exact .inl h
def leadsOk (P : Program) : List Func → List (List Nat) → Bool
  | f :: fs, l :: ls => natsBeq (P.leadsTo f) l && leadsOk P fs ls
  | _, _ => true
theorem leadsOk_eq {P : Program} : ∀ (fs : List Func) (ls : List (List Nat)), leadsOk P fs ls = true → ∀ (i : Nat) f l, fs[i]? = some f → ls[i]? = some l → P.leadsTo f = l := by
  intro fs
  induction fs with
  | nil => intro ls _ i f l h; cases h
  | cons x fs ih =>
    intro ls h i f l hf hl
    cases ls with
    | nil => cases hl
    | cons y ls =>
      have h : (natsBeq (P.leadsTo x) y && leadsOk P fs ls) = true := h
      rw [Bool.and_eq_true] at h
      cases i with
      | zero => cases hf; cases hl; have := h.1; rw [natsBeq_eq] at this; simpa using this
      | succ i => exact ih ls h.2 i f l hf hl
/-- piece by piece -/
theorem leads_all {P : Program} {L : List (List Nat)} (k : Nat) (hk : 0 < k) (hlen : P.funcs.toList.length = L.length) (h : ∀ j, j * k < L.length → leadsOk P ((P.funcs.toList.drop (j * k)).take k) ((L.drop (j * k)).take k) = true) :
    ∀ f : Nat, (P.funcs[f]?).elim [] P.leadsTo = (L[f]?).getD [] := by
  intro f
  cases hf : P.funcs[f]? with
  | none =>
    have : L.length ≤ f := by
      rw [← hlen]
      rcases Nat.lt_or_ge f P.funcs.toList.length with h | h
      · rw [Array.length_toList] at h; rw [Array.getElem?_eq_getElem h] at hf; cases hf
      · exact h
    rw [List.getElem?_eq_none this]; rfl
  | some fn =>
    have hlt : f < L.length := by
      rw [← hlen, Array.length_toList]
      exact (Array.getElem?_eq_some_iff.1 hf).1
    have hj : f / k * k < L.length := Nat.lt_of_le_of_lt (Nat.div_mul_le_self f k) hlt
    have hm : f % k < k := Nat.mod_lt _ hk
    have hfe : f / k * k + f % k = f := by rw [Nat.mul_comm]; exact Nat.div_add_mod f k
    have := leadsOk_eq _ _ (h (f / k) hj) (f % k) fn L[f]
      (by rw [List.getElem?_take_of_lt hm, List.getElem?_drop, hfe, Array.getElem?_toList]; exact hf)
      (by rw [List.getElem?_take_of_lt hm, List.getElem?_drop, hfe, List.getElem?_eq_getElem hlt])
    rw [List.getElem?_eq_getElem hlt]
    exact this
theorem closure_eq {P : Program} {L : List (List Nat)} {T : Tr (List Nat)} (hT : ∀ f : Nat, T.get f = L[f]?) (hlen : P.funcs.toList.length = L.length) (h : ∀ f : Nat, (P.funcs[f]?).elim [] P.leadsTo = (L[f]?).getD []) (n : Nat) (hn : 1 + (L.map fun l => l.length + 1).sum = n) (f : Nat) :
    P.closure f = closB T n [f] [] 0 := by
  unfold Program.closure
  have e : (P.funcs.toList.map fun g => (P.leadsTo g).length + 1) = L.map fun l => l.length + 1 := by
    apply List.ext_getElem?
    intro i
    rw [List.getElem?_map, List.getElem?_map]
    have := h i
    rw [← Array.getElem?_toList] at this
    cases hf : P.funcs.toList[i]? with
    | none =>
      have hle : L.length ≤ i := by
        rw [← hlen]
        rcases Nat.lt_or_ge i P.funcs.toList.length with h | h
        · rw [List.getElem?_eq_getElem h] at hf; cases hf
        · exact h
      rw [List.getElem?_eq_none hle]; rfl
    | some fn =>
      rw [hf] at this
      have hlt : i < L.length := by
        rw [← hlen]
        rcases Nat.lt_or_ge i P.funcs.toList.length with h | h
        · exact h
        · rw [List.getElem?_eq_none h] at hf; cases hf
      rw [List.getElem?_eq_getElem hlt] at this ⊢
      have this : P.leadsTo fn = L[i] := this
      simp only [Option.map_some, this]
  rw [e, hn]
  exact closB_eq (fun f => by rw [hT]; exact h f) n [f] [] 0 fun g => by rw [bit_zero]; simp
end Go.Vx
