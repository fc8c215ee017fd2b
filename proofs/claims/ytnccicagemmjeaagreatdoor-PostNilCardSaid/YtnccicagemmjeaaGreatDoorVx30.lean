/- The abstract executor: regions that draw their order: what the check of an order tells. -/
import Derived.Test.YtnccicagemmjeaaGreatDoorVx29
namespace Go.Vx

/-! ### Bits -/
theorem bit_eq (m i : Nat) : bit m i = m.testBit i := by
  unfold bit
  rw [Nat.testBit_eq_decide_div_mod_eq, ← Nat.shiftRight_eq_div_pow]
  show Nat.beq ((m >>> i) % 2) 1 = _
  rw [Bool.eq_iff_iff, decide_eq_true_iff]
  exact ⟨fun h => Nat.eq_of_beq_eq_true h, fun h => by rw [h]; rfl⟩
theorem bit_or (a b i : Nat) : bit (Nat.lor a b) i = (bit a i || bit b i) := by
  rw [bit_eq, bit_eq, bit_eq]; exact Nat.testBit_or a b i
theorem bit_and (a b i : Nat) : bit (Nat.land a b) i = (bit a i && bit b i) := by
  rw [bit_eq, bit_eq, bit_eq]; exact Nat.testBit_and a b i
theorem bit_one (j i : Nat) : bit (Nat.shiftLeft 1 j) i = decide (j = i) := by
  rw [bit_eq]
  show ((1 <<< j).testBit i) = _
  rw [Nat.one_shiftLeft, Nat.testBit_two_pow]
theorem bit_zero (i : Nat) : bit 0 i = false := by rw [bit_eq, Nat.zero_testBit]
theorem within_eq {a b : Nat} (h : within a b = true) (i : Nat) (hi : bit a i = true) : bit b i = true := by
  have := Nat.eq_of_beq_eq_true h
  rw [← this, bit_and, Bool.and_eq_true] at hi
  exact hi.2
theorem land_zero {a b : Nat} (h : Nat.beq (Nat.land a b) 0 = true) (i : Nat) : ¬ (bit a i = true ∧ bit b i = true) := by
  have := Nat.eq_of_beq_eq_true h
  rintro ⟨h1, h2⟩
  have h3 := bit_and a b i
  rw [this, bit_zero, h1, h2] at h3
  cases h3
theorem lor_zero {a b : Nat} (h : Nat.beq (Nat.lor a b) 0 = true) (i : Nat) : bit a i = false ∧ bit b i = false := by
  have := Nat.eq_of_beq_eq_true h
  have h3 := bit_or a b i
  rw [this, bit_zero] at h3
  have h3 := h3.symm
  rw [Bool.or_eq_false_iff] at h3
  exact h3
theorem bit_ones {n i : Nat} : bit (Nat.sub (Nat.shiftLeft 1 n) 1) i = decide (i < n) := by
  rw [bit_eq]
  show ((1 <<< n) - 1).testBit i = _
  rw [Nat.one_shiftLeft, Nat.testBit_two_pow_sub_one]

/-! ### What must come ahead -/
theorem ancOf_bit (acc : List Nat) : ∀ (es : List Edge) (r : Nat), bit (ancOf acc es) r = true → ∃ e ∈ es, bind1 e = true ∧ (r = e.on ∨ bit ((acc[e.on]?).getD 0) r = true) := by
  intro es
  induction es with
  | nil => intro r h; have h : bit 0 r = true := h; rw [bit_zero] at h; cases h
  | cons e es ih =>
    intro r h
    have h : bit (cond (bind1 e) (Nat.lor (Nat.lor (Nat.shiftLeft 1 e.on) ((nth acc e.on).getD 0)) (ancOf acc es)) (ancOf acc es)) r = true := h
    cases hb : bind1 e with
    | false =>
      rw [hb] at h
      obtain ⟨e', h1, h2⟩ := ih r h
      exact ⟨e', List.mem_cons_of_mem _ h1, h2⟩
    | true =>
      rw [hb] at h
      simp only [cond_true] at h
      rw [bit_or, bit_or, Bool.or_eq_true, Bool.or_eq_true, bit_one, nth_eq] at h
      rcases h with (h | h) | h
      · exact ⟨e, List.mem_cons_self, hb, .inl (of_decide_eq_true h).symm⟩
      · exact ⟨e, List.mem_cons_self, hb, .inr h⟩
      · obtain ⟨e', h1, h2⟩ := ih r h
        exact ⟨e', List.mem_cons_of_mem _ h1, h2⟩
theorem ancL_spec : ∀ (l : List Oper) (acc : List Nat), (∀ k, k < acc.length → (ancL l acc)[k]? = acc[k]?) ∧
    ∀ (j : Nat) (o : Oper), l[j]? = some o → ∃ acc' : List Nat, (ancL l acc)[acc.length + j]? = some (ancOf acc' o.after.toList) ∧ ∀ (k x : Nat), acc'[k]? = some x → (ancL l acc)[k]? = some x := by
  intro l
  induction l with
  | nil => intro acc; exact ⟨fun k _ => rfl, fun j o h => (by cases h)⟩
  | cons o l ih =>
    intro acc
    have e : ancL (o :: l) acc = ancL l (appL acc [ancOf acc o.after.toList]) := rfl
    rw [e, appL_eq]
    obtain ⟨h1, h2⟩ := ih (acc ++ [ancOf acc o.after.toList])
    have hpre : ∀ k, k < acc.length → (ancL l (acc ++ [ancOf acc o.after.toList]))[k]? = acc[k]? := fun k hk => by
      rw [h1 k (by simp; omega), List.getElem?_append_left hk]
    refine ⟨hpre, fun j p hj => ?_⟩
    cases j with
    | zero =>
      cases hj
      refine ⟨acc, ?_, fun k x hk => ?_⟩
      · rw [Nat.add_zero, h1 _ (by simp), List.getElem?_append_right (Nat.le_refl _)]; simp
      · rw [hpre k (by
          rcases Nat.lt_or_ge k acc.length with h | h
          · exact h
          · rw [List.getElem?_eq_none h] at hk; cases hk)]; exact hk
    | succ j =>
      obtain ⟨acc', h3, h4⟩ := h2 j p hj
      refine ⟨acc', ?_, h4⟩
      rw [show acc.length + (j + 1) = (acc ++ [ancOf acc o.after.toList]).length + j by simp; omega]
      exact h3
theorem anc_edges {ops : List Oper} {i : Nat} {o : Oper} (ho : ops[i]? = some o) {r : Nat} (hr : bit (ancAt (ancL ops []) i) r = true) :
    ∃ e ∈ o.after.toList, bind1 e = true ∧ (r = e.on ∨ bit (ancAt (ancL ops []) e.on) r = true) := by
  obtain ⟨acc', h1, h2⟩ := (ancL_spec ops []).2 i o ho
  unfold ancAt at hr
  simp only [List.length_nil, Nat.zero_add] at h1
  rw [nth_eq, h1, Option.getD_some] at hr
  obtain ⟨e, h3, h4, h5⟩ := ancOf_bit _ _ _ hr
  refine ⟨e, h3, h4, h5.imp id fun h => ?_⟩
  unfold ancAt
  rw [nth_eq]
  cases hk : acc'[e.on]? with
  | none => rw [hk] at h; simp only [Option.getD_none] at h; rw [bit_zero] at h; cases h
  | some x => rw [hk] at h; rw [h2 _ _ hk]; exact h
theorem bind1_eq (e : Edge) : bind1 e = Region.binds .any e := by
  unfold bind1 Region.binds
  cases e.ground <;> rfl

/-! ### What is read, what is written -/
theorem tmpsBit_mem : ∀ (l : List Operand) (t : Nat), Operand.tmp t ∈ l → bit (tmpsBit l) t = true := by
  intro l
  induction l with
  | nil => intro t h; cases h
  | cons x l ih =>
    intro t h
    show bit (Nat.lor (tmpBit x) (tmpsBit l)) t = true
    rw [bit_or, Bool.or_eq_true]
    rcases List.mem_cons.1 h with rfl | h
    · left; show bit (Nat.shiftLeft 1 t) t = true; rw [bit_one]; simp
    · exact .inr (ih t h)
theorem dstBit_eq (o : Oper) (d : Nat) : bit (dstBit o) d = true ↔ o.dst = some d := by
  unfold dstBit
  cases h : o.dst with
  | none => rw [bit_zero]; simp
  | some x => simp only [bit_one, decide_eq_true_eq, Option.some.injEq]

/-! ### The check -/
/-- what holds of two, the first ahead of the second in the order looked at -/
structure PairS (anc : List Nat) (ops : List Oper) (r x : Nat × Oper) : Prop where
  ne : r.1 ≠ x.1
  dst : ∀ d, r.2.dst = some d → x.2.dst ≠ some d
  rw : bit (ancAt anc x.1) r.1 = true ∨ (∀ d, r.2.dst = some d → bit (rdMask ops x.2) d = false) ∧ (∀ d, x.2.dst = some d → bit (rdMask ops r.2) d = false)
  eff : isE x.2.op = true → bit (ancAt anc x.1) r.1 = true
structure OneS (anc : List Nat) (ops : List Oper) (pre : List (Nat × Oper)) (x : Nat × Oper) : Prop where
  pair : ∀ r ∈ pre, PairS anc ops r x
  edge : ∀ e ∈ x.2.after.toList, bind1 e = true → ∃ r ∈ pre, r.1 = e.on
structure PreI (ops : List Oper) (pre : List (Nat × Oper)) (done wd : Nat) (ps : List PI) : Prop where
  done : ∀ j, bit done j = true ↔ ∃ r ∈ pre, r.1 = j
  wd : ∀ r ∈ pre, ∀ d, r.2.dst = some d → bit wd d = true
  ps : ∀ r ∈ pre, (⟨r.1, rdMask ops r.2, dstBit r.2⟩ : PI) ∈ ps
theorem edgesIn_eq (done : Nat) : ∀ (l : List Edge), edgesIn done l = true → ∀ e ∈ l, bind1 e = true → bit done e.on = true := by
  intro l
  induction l with
  | nil => intro _ e h; cases h
  | cons x l ih =>
    intro h e he hb
    have h : cond (cond (bind1 x) (bit done x.on) true) (edgesIn done l) false = true := h
    cases hx : cond (bind1 x) (bit done x.on) true with
    | false => rw [hx] at h; cases h
    | true =>
      rw [hx] at h
      rcases List.mem_cons.1 he with rfl | he
      · rw [hb] at hx; exact hx
      · exact ih h e he hb
theorem pairsOk_eq (a rm db : Nat) : ∀ (l : List PI), pairsOk a rm db l = true → ∀ p ∈ l, bit a p.i = true ∨ (∀ d, ¬ (bit p.db d = true ∧ bit rm d = true)) ∧ (∀ d, ¬ (bit p.rm d = true ∧ bit db d = true)) := by
  intro l
  induction l with
  | nil => intro _ p h; cases h
  | cons x l ih =>
    intro h p hp
    have h : cond (bit a x.i || Nat.beq (Nat.lor (Nat.land x.db rm) (Nat.land x.rm db)) 0) (pairsOk a rm db l) false = true := h
    cases hx : (bit a x.i || Nat.beq (Nat.lor (Nat.land x.db rm) (Nat.land x.rm db)) 0) with
    | false => rw [hx] at h; cases h
    | true =>
      rw [hx] at h
      rcases List.mem_cons.1 hp with rfl | hp
      · rw [Bool.or_eq_true] at hx
        refine hx.imp id fun hx => ?_
        have := lor_zero hx
        refine ⟨fun d hd => ?_, fun d hd => ?_⟩
        · have := (this d).1; rw [bit_and, hd.1, hd.2] at this; cases this
        · have := (this d).2; rw [bit_and, hd.1, hd.2] at this; cases this
      · exact ih h p hp
theorem chkOne_eq {anc : List Nat} {ops : List Oper} {pre : List (Nat × Oper)} {done wd : Nat} {ps : List PI} (hI : PreI ops pre done wd ps) {i : Nat} {o : Oper}
    (h : chkOne ops (ancAt anc i) i o done wd ps = true) : OneS anc ops pre (i, o) := by
  unfold chkOne at h
  simp only [Bool.and_eq_true] at h
  obtain ⟨h1, h2, h3, h4, h5⟩ := h
  have hnot : bit done i = false := by
    unfold notB at h1
    rw [recB] at h1
    cases hb : bit done i with
    | false => rfl
    | true => rw [hb] at h1; cases h1
  refine ⟨fun r hr => ?_, fun e he hb => (hI.done _).1 (edgesIn_eq done _ h2 e he hb)⟩
  have hdone : bit done r.1 = true := (hI.done _).2 ⟨r, hr, rfl⟩
  refine ⟨fun e => ?_, fun d hd he => ?_, ?_, fun hE => ?_⟩
  · have e : r.1 = i := e
    rw [e, hnot] at hdone; cases hdone
  · exact land_zero h4 d ⟨hI.wd r hr d hd, (dstBit_eq o d).2 he⟩
  · cases hw : within done (ancAt anc i) with
    | true => exact .inl (within_eq hw _ hdone)
    | false =>
      rw [hw] at h5
      simp only [cond_false] at h5
      refine (pairsOk_eq _ _ _ _ h5 _ (hI.ps r hr)).imp id fun ⟨k1, k2⟩ => ⟨fun d hd => ?_, fun d hd => ?_⟩
      · cases hb : bit (rdMask ops o) d with
        | false => rfl
        | true => exact absurd ⟨(dstBit_eq r.2 d).2 hd, hb⟩ (k1 d)
      · cases hb : bit (rdMask ops r.2) d with
        | false => rfl
        | true => exact absurd ⟨hb, (dstBit_eq o d).2 hd⟩ (k2 d)
  · have hE : isE o.op = true := hE
    rw [hE] at h3
    exact within_eq h3 _ hdone
theorem planChk_eq {anc : List Nat} {ops : List Oper} : ∀ (l : List Nat) (pre : List (Nat × Oper)) (done wd : Nat) (ps : List PI), PreI ops pre done wd ps → planChk anc ops l done wd ps = true →
    ∃ rest : List (Nat × Oper), rest.map (·.1) = l ∧ (∀ x ∈ rest, ops[x.1]? = some x.2) ∧ (∀ A x B, rest = A ++ x :: B → OneS anc ops (pre ++ A) x) ∧ ∀ j, j < ops.length → ∃ r ∈ pre ++ rest, r.1 = j := by
  intro l
  induction l with
  | nil =>
    intro pre done wd ps hI h
    refine ⟨[], rfl, fun x h => (by cases h), fun A x B h => ?_, fun j hj => ?_⟩
    · have := congrArg List.length h
      simp at this
    · have h : Nat.beq done (Nat.sub (Nat.shiftLeft 1 (lenL ops)) 1) = true := h
      rw [Nat.eq_of_beq_eq_true h, lenL_eq] at hI
      rw [List.append_nil]
      exact (hI.done j).1 (by rw [bit_ones]; simpa using hj)
  | cons i l ih =>
    intro pre done wd ps hI h
    have h : (match nth ops i with
      | none => false
      | some o => cond (chkOne ops (ancAt anc i) i o done wd ps)
        (planChk anc ops l (Nat.lor done (Nat.shiftLeft 1 i)) (Nat.lor wd (dstBit o)) (⟨i, rdMask ops o, dstBit o⟩ :: ps)) false) = true := h
    rw [nth_eq] at h
    cases ho : ops[i]? with
    | none => rw [ho] at h; cases h
    | some o =>
      rw [ho] at h
      simp only at h
      cases hc : chkOne ops (ancAt anc i) i o done wd ps with
      | false => rw [hc] at h; cases h
      | true =>
        rw [hc] at h
        simp only [cond_true] at h
        have hone := chkOne_eq (anc := anc) hI hc
        have hI' : PreI ops (pre ++ [(i, o)]) (Nat.lor done (Nat.shiftLeft 1 i)) (Nat.lor wd (dstBit o)) (⟨i, rdMask ops o, dstBit o⟩ :: ps) := by
          refine ⟨fun j => ?_, fun r hr d hd => ?_, fun r hr => ?_⟩
          · rw [bit_or, Bool.or_eq_true, bit_one, hI.done]
            simp only [decide_eq_true_eq, List.mem_append, List.mem_singleton]
            constructor
            · rintro (⟨r, h1, h2⟩ | rfl)
              · exact ⟨r, .inl h1, h2⟩
              · exact ⟨_, .inr rfl, rfl⟩
            · rintro ⟨r, h1 | rfl, h2⟩
              · exact .inl ⟨r, h1, h2⟩
              · exact .inr h2
          · rw [bit_or, Bool.or_eq_true]
            rcases List.mem_append.1 hr with hr | hr
            · exact .inl (hI.wd r hr d hd)
            · rw [List.mem_singleton] at hr
              subst hr
              exact .inr ((dstBit_eq o d).2 hd)
          · rcases List.mem_append.1 hr with hr | hr
            · exact List.mem_cons_of_mem _ (hI.ps r hr)
            · rw [List.mem_singleton] at hr
              subst hr
              exact List.mem_cons_self
        obtain ⟨rest, k1, k2, k3, k4⟩ := ih _ _ _ _ hI' h
        refine ⟨(i, o) :: rest, by simp [k1], fun x hx => ?_, fun A x B hAB => ?_, fun j hj => ?_⟩
        · rcases List.mem_cons.1 hx with rfl | hx
          · exact ho
          · exact k2 x hx
        · cases A with
          | nil =>
            rw [List.nil_append, List.cons.injEq] at hAB
            rw [← hAB.1, List.append_nil]
            exact hone
          | cons y A =>
            rw [List.cons_append, List.cons.injEq] at hAB
            rw [← hAB.1]
            have := k3 A x B hAB.2
            rwa [List.append_assoc] at this
        · have := k4 j hj
          rwa [List.append_assoc] at this
theorem planChk_ok {anc : List Nat} {ops : List Oper} {l : List Nat} (h : planChk anc ops l 0 0 [] = true) :
    ∃ rest : List (Nat × Oper), rest.map (·.1) = l ∧ (∀ x ∈ rest, ops[x.1]? = some x.2) ∧ (∀ A x B, rest = A ++ x :: B → OneS anc ops A x) ∧ ∀ j, j < ops.length → ∃ r ∈ rest, r.1 = j := by
  have := planChk_eq l [] 0 0 [] ⟨fun j => by rw [bit_zero]; simp, fun r h => (by cases h), fun r h => (by cases h)⟩ h
  simpa using this
end Go.Vx
