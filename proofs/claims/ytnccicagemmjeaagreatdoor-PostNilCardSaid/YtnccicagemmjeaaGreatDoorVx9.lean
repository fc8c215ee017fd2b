/- The abstract executor: arithmetic, comparisons. -/
import Derived.Test.YtnccicagemmjeaaGreatDoorVx8
import Derived.Laws.Concat
import Derived.Laws.Strings
namespace Go.Vx

theorem eqK_eq {a b : IntKind} (h : eqK a b = true) : a = b := by
  unfold eqK at h
  have := Nat.eq_of_beq_eq_true h
  cases a <;> cases b <;> first | rfl | exact absurd this (by decide)
theorem eqK_refl (a : IntKind) : eqK a a = true := Nat.beq_refl _
theorem natsBeq_eq : ∀ (a b : List Nat), natsBeq a b = decide (a = b) := by
  intro a
  induction a with
  | nil => intro b; cases b <;> simp [natsBeq]
  | cons x a ih =>
    intro b
    cases b with
    | nil => simp [natsBeq]
    | cons y b =>
      unfold natsBeq
      cases h : Nat.beq x y
      · have : x ≠ y := fun e => by rw [e, Nat.beq_refl] at h; cases h
        simp [this]
      · have := Nat.eq_of_beq_eq_true h
        simp [this, ih b]

/-! ### Bits -/
theorem pow_pos' (k : IntKind) : 0 < 2 ^ k.bits := Nat.two_pow_pos _
theorem lowN_ofInt (k : IntKind) (x : Int) : lowN k x = (BitVec.ofInt k.bits x).toNat := by
  rw [BitVec.toNat_ofInt]
  have h := lowM_eq (pw k) (by rw [pw_nat]; exact pow_pos' k) x
  unfold lowN
  rw [pw_nat] at h ⊢
  omega
theorem backI_eq (k : IntKind) (n : Nat) : backI k n = k.wrap (n : Int) := by unfold backI; rw [wr_eq]; rfl
theorem bits_eq (k : IntKind) : bits k = k.bits := by cases k <;> rfl

/-! ### One number -/
theorem cmpI_run {op : BinOp} {cf : CmpF} (h : cmpI op = some cf) (P : Program) (t : TypeId) (k : IntKind) (a b : Int) (w : World) : (binOp op t (.int k a) (.int k b)).run P w = .ok (.bool (cf.f a b)) w := by
  cases op <;> try (cases h; done)
  all_goals cases h
  · rw [binOp_eql]; simp [ieq_eq]
  · rw [binOp_neq]; simp [ieq_eq, notB_eq, bne]
  · rw [binOp_lss]; simp [ilt_eq]
  · rw [binOp_leq]; simp [ile_eq]
  · rw [binOp_gtr]; simp [ilt_eq]
  · rw [binOp_geq]; simp [ile_eq]
theorem arI_run {op : BinOp} {k : IntKind} {a b n : Int} (h : (arI op).f k a b = some n) (P : Program) (t : TypeId) (j : IntKind) (hj : isShift op = true ∨ k = j) (w : World) :
    (binOp op t (.int k a) (.int j b)).run P w = .ok (.int k n) w := by
  cases op <;> try (cases h; done)
  case add => rcases hj with hj | rfl; · cases hj
              cases h; rw [binOp_add]; simp [Op.intArith, wr_eq, addI_eq]
  case sub => rcases hj with hj | rfl; · cases hj
              cases h; rw [binOp_sub]; simp [Op.intArith, wr_eq, subI_eq]
  case mul => rcases hj with hj | rfl; · cases hj
              cases h; rw [binOp_mul]; simp [Op.intArith, wr_eq]
  case quo =>
    rcases hj with hj | rfl; · cases hj
    have h : cond (ieq b 0) none (some (wr k (Int.tdiv a b))) = some n := h
    rw [ieq_eq] at h
    by_cases hb : b = 0
    · subst hb; simp at h
    · rw [beq_eq_false_iff_ne.2 hb] at h
      cases h; rw [binOp_quo]; simp [Op.intDiv, hb, wr_eq]
  case rem =>
    rcases hj with hj | rfl; · cases hj
    have h : cond (ieq b 0) none (some (Int.tmod a b)) = some n := h
    rw [ieq_eq] at h
    by_cases hb : b = 0
    · subst hb; simp at h
    · rw [beq_eq_false_iff_ne.2 hb] at h
      cases h; rw [binOp_rem]; simp [Op.intDiv, hb]
  case and => rcases hj with hj | rfl; · cases hj
              cases h; rw [binOp_and]; simp [Op.intBits, backI_eq, lowN_ofInt]
  case or => rcases hj with hj | rfl; · cases hj
             cases h; rw [binOp_or]; simp [Op.intBits, backI_eq, lowN_ofInt]
  case xor => rcases hj with hj | rfl; · cases hj
              cases h; rw [binOp_xor]; simp [Op.intBits, backI_eq, lowN_ofInt]
  case andNot =>
    rcases hj with hj | rfl; · cases hj
    cases h; rw [binOp_andNot]
    simp only [Op.intBits, backI_eq, lowN_ofInt, pw_nat, Sem.run_pure, BitVec.toNat_and, BitVec.toNat_not]
    rfl
  case shl =>
    cases b with
    | negSucc b => cases h
    | ofNat b =>
      cases h; rw [binOp_shl]
      have h0 : ¬ ((b : Int) < 0) := by omega
      simp only [Op.shift, Int.ofNat_eq_natCast, if_neg h0, Sem.run_pure, wr_eq]
      have e : min (b : Int).toNat k.bits = cond (Nat.ble b (bits k)) b (bits k) := by
        rw [bits_eq, Int.toNat_natCast]
        cases hb : Nat.ble b k.bits
        · have : ¬ b ≤ k.bits := fun h => by rw [Nat.ble_eq_true_of_le h] at hb; cases hb
          simp only [cond_false]; omega
        · have := Nat.le_of_ble_eq_true hb
          simp only [cond_true]; omega
      rw [e]
      congr 4
  case shr =>
    cases b with
    | negSucc b => cases h
    | ofNat b =>
      cases h; rw [binOp_shr]
      have h0 : ¬ ((b : Int) < 0) := by omega
      simp only [Op.shift, Int.ofNat_eq_natCast, if_neg h0, Sem.run_pure]
      have e : min (b : Int).toNat k.bits = cond (Nat.ble b (bits k)) b (bits k) := by
        rw [bits_eq, Int.toNat_natCast]
        cases hb : Nat.ble b k.bits
        · have : ¬ b ≤ k.bits := fun h => by rw [Nat.ble_eq_true_of_le h] at hb; cases hb
          simp only [cond_false]; omega
        · have := Nat.le_of_ble_eq_true hb
          simp only [cond_true]; omega
      rw [e]
      congr 3

/-! ### Numbers that are not known -/
theorem eqBin_eq {a b : BinOp} (h : eqBin a b = true) : a = b := by
  cases a <;> cases b <;> first | rfl | cases h
theorem SE.beq_eq : ∀ (a b : SE), a.beq b = true → a = b := by
  intro a
  induction a with
  | lit n => intro b h; cases b <;> first | (simp only [SE.beq, ieq_eq, beq_iff_eq] at h; rw [h]) | cases h
  | var i => intro b h; cases b <;> first | (rw [Nat.eq_of_beq_eq_true h]) | cases h
  | ar o k x y ihx ihy =>
    intro b h
    cases b with
    | ar o' k' x' y' =>
      simp only [SE.beq, Bool.and_eq_true] at h
      rw [eqBin_eq h.1.1.1, eqK_eq h.1.1.2, ihx _ h.1.2, ihy _ h.2]
    | _ => cases h
  | cv k x ih =>
    intro b h
    cases b with
    | cv k' x' =>
      simp only [SE.beq, Bool.and_eq_true] at h
      rw [eqK_eq h.1, ih _ h.2]
    | _ => cases h
theorem lookF_mem : ∀ (l : List (SE × Int × Int)) (e : SE) (p : Int × Int), lookF l e = some p → (e, p.1, p.2) ∈ l := by
  intro l
  induction l with
  | nil => intro e p h; cases h
  | cons x l ih =>
    intro e p h
    obtain ⟨a, lo, hi⟩ := x
    unfold lookF at h
    cases hb : a.beq e
    · rw [hb] at h; exact List.mem_cons_of_mem _ (ih e p h)
    · rw [hb] at h; cases h; rw [SE.beq_eq _ _ hb]; exact List.mem_cons_self
theorem bnd_ok {E : Env} {ρ : Nat → Int} (hf : FactsOk E ρ) {e : SE} {p : Int × Int} (h : bnd E e = some p) : p.1 ≤ e.eval ρ ∧ e.eval ρ ≤ p.2 := by
  unfold bnd at h
  split at h
  · cases h; exact ⟨Int.le_refl _, Int.le_refl _⟩
  · exact hf _ _ _ (lookF_mem _ _ _ h)
theorem seOf_val {m : Ren} {x : AV} {k : IntKind} {e : SE} (h : seOf x = some (k, e)) : x.val m = .int k (e.eval m.ρ) := by
  cases x <;> cases h <;> rfl
theorem cmpB_ok {op : BinOp} {a b c d x y : Int} {r : Bool} (h : cmpB op a b c d = some r) (h1 : a ≤ x) (h2 : x ≤ b) (h3 : c ≤ y) (h4 : y ≤ d) (P : Program) (t : TypeId) (k : IntKind) (w : World) :
    (binOp op t (.int k x) (.int k y)).run P w = .ok (.bool r) w := by
  cases op <;> try (cases h; done)
  all_goals
    unfold cmpB at h
    simp only [ilt_eq, ile_eq] at h
  case eql =>
    rw [binOp_eql]
    by_cases e : b < c ∨ d < a
    · have : (decide (b < c) || decide (d < a)) = true := by simpa using e
      rw [this] at h; cases h
      have : x ≠ y := by omega
      simp [this]
    · have : (decide (b < c) || decide (d < a)) = false := by simpa using e
      rw [this] at h; cases h
  case neq =>
    rw [binOp_neq]
    by_cases e : b < c ∨ d < a
    · have : (decide (b < c) || decide (d < a)) = true := by simpa using e
      rw [this] at h; cases h
      have : x ≠ y := by omega
      simp [this]
    · have : (decide (b < c) || decide (d < a)) = false := by simpa using e
      rw [this] at h; cases h
  case lss =>
    rw [binOp_lss]
    by_cases e : b < c
    · rw [decide_eq_true e] at h; cases h; simp; omega
    · rw [decide_eq_false e] at h
      by_cases e : d ≤ a
      · rw [decide_eq_true e] at h; cases h; simp; omega
      · rw [decide_eq_false e] at h; cases h
  case leq =>
    rw [binOp_leq]
    by_cases e : b ≤ c
    · rw [decide_eq_true e] at h; cases h; simp; omega
    · rw [decide_eq_false e] at h
      by_cases e : d < a
      · rw [decide_eq_true e] at h; cases h; simp; omega
      · rw [decide_eq_false e] at h; cases h
  case gtr =>
    rw [binOp_gtr]
    by_cases e : d < a
    · rw [decide_eq_true e] at h; cases h; simp; omega
    · rw [decide_eq_false e] at h
      by_cases e : b ≤ c
      · rw [decide_eq_true e] at h; cases h; simp; omega
      · rw [decide_eq_false e] at h; cases h
  case geq =>
    rw [binOp_geq]
    by_cases e : d ≤ a
    · rw [decide_eq_true e] at h; cases h; simp; omega
    · rw [decide_eq_false e] at h
      by_cases e : b < c
      · rw [decide_eq_true e] at h; cases h; simp; omega
      · rw [decide_eq_false e] at h; cases h
theorem arOk_some {op : BinOp} {b : SE} (h : arOk op b = true) (ρ : Nat → Int) (k : IntKind) (x : Int) : ∃ n, (arI op).f k x (b.eval ρ) = some n := by
  have quo : ∀ n, ∃ r, (arI .quo).f k x (Int.ofNat (n + 1)) = some r := fun n => ⟨wr k (Int.tdiv x (Int.ofNat (n + 1))), rfl⟩
  have rem : ∀ n, ∃ r, (arI .rem).f k x (Int.ofNat (n + 1)) = some r := fun n => ⟨Int.tmod x (Int.ofNat (n + 1)), rfl⟩
  cases op <;> try (cases h; done)
  case quo => cases b with
    | lit n => cases n with
      | ofNat n => cases n with
        | zero => cases h
        | succ n => exact quo n
      | negSucc n => cases h
    | _ => cases h
  case rem => cases b with
    | lit n => cases n with
      | ofNat n => cases n with
        | zero => cases h
        | succ n => exact rem n
      | negSucc n => cases h
    | _ => cases h
  case shl => cases b with
    | lit n => cases n with
      | ofNat n => exact ⟨_, rfl⟩
      | negSucc n => cases h
    | _ => cases h
  case shr => cases b with
    | lit n => cases n with
      | ofNat n => exact ⟨_, rfl⟩
      | negSucc n => cases h
    | _ => cases h
  all_goals exact ⟨_, rfl⟩
theorem binSym_run {E : Env} {op : BinOp} {x y v : AV} {m : Ren} (h : binSym E op x y = some v) (hf : FactsOk E m.ρ) (P : Program) (t : TypeId) (w : World) :
    (binOp op t (x.val m) (y.val m)).run P w = .ok (v.val m) w ∧ ∀ n, v.wf n := by
  unfold binSym at h
  split at h
  · rename_i k a j b hx hy
    rw [seOf_val hx, seOf_val hy]
    cases hc : isCmp op
    · rw [hc] at h
      simp only [cond_false] at h
      cases hk : ((isShift op || eqK k j) && arOk op b)
      · rw [hk] at h; cases h
      · rw [hk] at h
        cases h
        rw [Bool.and_eq_true, Bool.or_eq_true] at hk
        obtain ⟨n, hn⟩ := arOk_some hk.2 m.ρ k (a.eval m.ρ)
        refine ⟨?_, fun _ => trivial⟩
        rw [arI_run hn P t j (hk.1.imp id eqK_eq) w]
        simp only [AV.val, SE.eval, hn, Option.getD_some]
    · rw [hc] at h
      simp only [cond_true] at h
      cases hk : eqK k j
      · rw [hk] at h; cases h
      · rw [hk] at h
        have := eqK_eq hk
        subst this
        simp only [cond_true] at h
        split at h
        · rename_i p q r s ha hb
          rw [Option.map_eq_some_iff] at h
          obtain ⟨u, hu, rfl⟩ := h
          have h1 := bnd_ok hf ha
          have h2 := bnd_ok hf hb
          exact ⟨cmpB_ok hu h1.1 h1.2 h2.1 h2.2 P t k w, fun _ => trivial⟩
        · cases h
  · cases h
end Go.Vx
