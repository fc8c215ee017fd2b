/- The abstract executor: binary operations, conversions, fields, elements. -/
import Derived.Test.YtnccicagemmjeaaGreatDoorVx9
namespace Go.Vx

theorem strV_append (a b : List Nat) : (⟨(a.map UInt8.ofNat).toArray⟩ : ByteArray) ++ (⟨(b.map UInt8.ofNat).toArray⟩ : ByteArray) = ⟨((a ++ b).map UInt8.ofNat).toArray⟩ := by
  apply ByteArray.ext
  rw [ByteArray.data_append]
  simp
theorem strV_size (a : List Nat) : (⟨(a.map UInt8.ofNat).toArray⟩ : ByteArray).size = a.length := by
  show Array.size _ = _
  simp
theorem map_ofNat_inj : ∀ {a b : List Nat}, (∀ x ∈ a, x < 256) → (∀ x ∈ b, x < 256) → a.map UInt8.ofNat = b.map UInt8.ofNat → a = b := by
  intro a
  induction a with
  | nil => intro b _ _ h; cases b with
    | nil => rfl
    | cons y b => cases h
  | cons x a ih =>
    intro b ha hb h
    cases b with
    | nil => cases h
    | cons y b =>
      simp only [List.map_cons, List.cons.injEq] at h
      have hx := ha x (by simp)
      have hy := hb y (by simp)
      have e : x = y := by
        have := congrArg UInt8.toNat h.1
        simpa [UInt8.toNat_ofNat', Nat.mod_eq_of_lt hx, Nat.mod_eq_of_lt hy] using this
      rw [e, ih (fun z hz => ha z (by simp [hz])) (fun z hz => hb z (by simp [hz])) h.2]
theorem strV_beq {a b : List Nat} (ha : ∀ x ∈ a, x < 256) (hb : ∀ x ∈ b, x < 256) : ((⟨(a.map UInt8.ofNat).toArray⟩ : ByteArray).toList == (⟨(b.map UInt8.ofNat).toArray⟩ : ByteArray).toList) = natsBeq a b := by
  rw [natsBeq_eq, ByteArray.toList_mk, ByteArray.toList_mk]
  by_cases e : a = b
  · subst e; simp
  · rw [decide_eq_false e]
    rw [beq_eq_false_iff_ne]
    exact fun h => e (map_ofNat_inj ha hb h)
theorem strBin_run {op : BinOp} {a b : List Nat} {v : AV} {m : Ren} {n : Nat} (h : strBin op a b = some v) (ha : ∀ x ∈ a, x < 256) (hb : ∀ x ∈ b, x < 256) (P : Program) (t : TypeId) (w : World) :
    (binOp op t (strV a) (strV b)).run P w = .ok (v.val m) w ∧ v.wf n := by
  cases op <;> try (cases h; done)
  case add =>
    have h : cond (Nat.ble (Nat.add (lenL a) (lenL b)) 1048576) (some (AV.str (appL a b))) none = some v := h
    cases hc : Nat.ble (Nat.add (lenL a) (lenL b)) 1048576
    · rw [hc] at h; cases h
    · rw [hc] at h; cases h
      have hle := Nat.le_of_ble_eq_true hc
      rw [lenL_eq, lenL_eq] at hle
      refine ⟨?_, ?_⟩
      · unfold strV
        rw [binOp_string_add, run_string_add_sum w _ _ (by rw [strV_size, strV_size]; simp only [Nat.add_eq] at hle; omega), strV_append, appL_eq]
        rfl
      · intro x hx
        rw [appL_eq, List.mem_append] at hx
        exact hx.elim (ha x) (hb x)
  case eql =>
    cases h
    refine ⟨?_, trivial⟩
    unfold strV
    rw [binOp_string_eql, strV_beq ha hb]; rfl
  case neq =>
    cases h
    refine ⟨?_, trivial⟩
    unfold strV
    rw [binOp_string_neq, strV_beq ha hb, notB_eq]; rfl
theorem strOf_eq {x : AV} {l : List Nat} (h : strOf x = some l) : x = .str l := by cases x <;> cases h <;> rfl
theorem eqBool_eq {x y : AV} {r : Bool} (h : eqBool x y = some r) : ∃ a b, x = .bool a ∧ y = .bool b ∧ r = (a == b) := by
  cases x <;> cases y <;> try (cases h; done)
  rename_i a b
  refine ⟨a, b, rfl, rfl, ?_⟩
  cases h
  cases a <;> cases b <;> rfl
/-- values of which one is nil, and that are no interfaces -/
theorem eqNil_eq {k : NilK} {x y : AV} {r : Bool} (h : eqNil k x y = some r) :
    (x = .nil k ∧ y = .nil k ∧ r = true) ∨ (x = .nil k ∧ k.ok y = true ∧ r = false) ∨ (k.ok x = true ∧ y = .nil k ∧ r = false) := by
  have nil : ∀ z : AV, isNil k z = true → z = .nil k := fun z hz => by
    cases z with
    | nil j => cases k <;> cases j <;> first | rfl | cases hz
    | _ => cases hz
  unfold eqNil at h
  cases hx : isNil k x
  · rw [hx] at h
    simp only [cond_false] at h
    cases hb : (k.ok x && isNil k y)
    · rw [hb] at h; cases h
    · rw [hb] at h; cases h
      rw [Bool.and_eq_true] at hb
      exact .inr (.inr ⟨hb.1, nil y hb.2, rfl⟩)
  · rw [hx] at h
    simp only [cond_true] at h
    cases hy : isNil k y
    · rw [hy] at h
      simp only [cond_false] at h
      cases hk : k.ok y
      · rw [hk] at h; cases h
      · rw [hk] at h; cases h; exact .inr (.inl ⟨nil x hx, rfl, rfl⟩)
    · rw [hy] at h; cases h; exact .inl ⟨nil x hx, nil y hy, rfl⟩
/-- what a value is that a nil is compared with -/
theorem ok_val (m : Ren) {k : NilK} {y : AV} (h : k.ok y = true) : match k with
    | .p => ∃ a, y.val m = .pointer (some a)
    | .s => ∃ a n c, y.val m = .slice (some a) n c
    | .m => ∃ a, y.val m = .map (some a)
    | .f => ∃ f a b, y.val m = .func f a b
    | .i => False := by
  cases k with
  | p => cases y <;> first | exact ⟨_, rfl⟩ | cases h
  | s => cases y with
    | slc b o n c => exact ⟨_, _, _, rfl⟩
    | oth o => cases o with
      | emp b o d a z => exact ⟨_, _, _, rfl⟩
      | yld l => cases h
    | _ => cases h
  | m => cases y <;> first | exact ⟨_, rfl⟩ | cases h
  | f => cases y <;> first | exact ⟨_, _, _, rfl⟩ | cases h
  | i => cases y <;> cases h

theorem eqGuard_other (op : BinOp) (t : TypeId) (xo yo : Operand) {x : Value} (y : Value) (h1 : x ≠ .nilIface) (h2 : ∀ c, x ≠ .agg c) : eqGuard op t xo yo x y = pure () := by
  cases x with
  | nilIface => exact absurd rfl h1
  | agg c => exact absurd rfl (h2 c)
  | _ => cases op <;> rfl
theorem onInt_eq (x : AV) (d : Option AV) (f : IntKind → Int → Option AV) : onInt x d f = match x with | .int k n => f k n | _ => d := by cases x <;> rfl
theorem binSym_wf {E : Env} {op : BinOp} {x y v : AV} (h : binSym E op x y = some v) (n : Nat) : v.wf n := by
  unfold binSym at h
  split at h
  · rename_i k a j b hx hy
    cases hc : isCmp op
    · rw [hc] at h
      simp only [cond_false] at h
      cases hk : ((isShift op || eqK k j) && arOk op b)
      · rw [hk] at h; cases h
      · rw [hk] at h; cases h; trivial
    · rw [hc] at h
      simp only [cond_true] at h
      cases hk : eqK k j
      · rw [hk] at h; cases h
      · rw [hk] at h
        simp only [cond_true] at h
        split at h
        · rw [Option.map_eq_some_iff] at h
          obtain ⟨u, hu, rfl⟩ := h
          trivial
        · cases h
  · cases h
/-- '==' on what the executor compares; no interfaces, no structs -/
theorem eqA_run {E : Env} (hE : EnvOk E) {t : TypeId} {x y : AV} {r : Bool} (h : eqA E.T t x y = some r) (m : Ren) (w : World) :
    (binOp .eql t (x.val m) (y.val m)).run E.P w = .ok (.bool r) w ∧ (binOp .neq t (x.val m) (y.val m)).run E.P w = .ok (.bool (!r)) w ∧ x.val m ≠ .nilIface ∧ ∀ c, x.val m ≠ .agg c := by
  have fin : ∀ (u v : Value), x.val m = u → y.val m = v → binOp .eql t u v = (do pure (.bool (← Op.equal t u v))) → binOp .neq t u v = (do pure (.bool (!(← Op.equal t u v)))) →
      (Op.equalIn (9999 + 1) t u v).run E.P w = .ok r w → u ≠ .nilIface → (∀ c, u ≠ .agg c) →
      (binOp .eql t (x.val m) (y.val m)).run E.P w = .ok (.bool r) w ∧ (binOp .neq t (x.val m) (y.val m)).run E.P w = .ok (.bool (!r)) w ∧ x.val m ≠ .nilIface ∧ ∀ c, x.val m ≠ .agg c := by
    intro u v h1 h2 h3 h4 h5 h6 h7
    have h5 : (Op.equal t u v).run E.P w = .ok r w := h5
    rw [h1, h2, h3, h4]
    refine ⟨?_, ?_, h6, h7⟩
    · rw [Sem.run_bind, h5]; rfl
    · rw [Sem.run_bind, h5]; rfl
  unfold eqA at h
  split at h
  · rename_i e hu
    rcases eqNil_eq h with ⟨rfl, rfl, rfl⟩ | ⟨rfl, hk, rfl⟩ | ⟨hk, rfl, rfl⟩
    · refine fin _ _ rfl rfl rfl rfl ?_ (by simp [AV.val, NilK.val]) (by simp [AV.val, NilK.val])
      unfold Op.equalIn; rw [Sem.run_bind, run_undT hE hu]; rfl
    · obtain ⟨a, ha⟩ := ok_val m hk
      refine fin _ _ rfl ha rfl rfl ?_ (by simp [AV.val, NilK.val]) (by simp [AV.val, NilK.val])
      unfold Op.equalIn; rw [Sem.run_bind, run_undT hE hu]; rfl
    · obtain ⟨a, ha⟩ := ok_val m hk
      refine fin _ _ ha rfl rfl rfl ?_ (by simp) (by simp)
      unfold Op.equalIn; rw [Sem.run_bind, run_undT hE hu]; rfl
  · rename_i e hu
    rcases eqNil_eq h with ⟨rfl, rfl, rfl⟩ | ⟨rfl, hk, rfl⟩ | ⟨hk, rfl, rfl⟩
    · refine fin _ _ rfl rfl rfl rfl ?_ (by simp [AV.val, NilK.val]) (by simp [AV.val, NilK.val])
      unfold Op.equalIn; rw [Sem.run_bind, run_undT hE hu]; rfl
    · obtain ⟨a, n, c, ha⟩ := ok_val m hk
      refine fin _ _ rfl ha rfl rfl ?_ (by simp [AV.val, NilK.val]) (by simp [AV.val, NilK.val])
      unfold Op.equalIn; rw [Sem.run_bind, run_undT hE hu]; rfl
    · obtain ⟨a, n, c, ha⟩ := ok_val m hk
      refine fin _ _ ha rfl rfl rfl ?_ (by simp) (by simp)
      unfold Op.equalIn; rw [Sem.run_bind, run_undT hE hu]; rfl
  · rename_i k e hu
    rcases eqNil_eq h with ⟨rfl, rfl, rfl⟩ | ⟨rfl, hk, rfl⟩ | ⟨hk, rfl, rfl⟩
    · refine fin _ _ rfl rfl rfl rfl ?_ (by simp [AV.val, NilK.val]) (by simp [AV.val, NilK.val])
      unfold Op.equalIn; rw [Sem.run_bind, run_undT hE hu]; rfl
    · obtain ⟨a, ha⟩ := ok_val m hk
      refine fin _ _ rfl ha rfl rfl ?_ (by simp [AV.val, NilK.val]) (by simp [AV.val, NilK.val])
      unfold Op.equalIn; rw [Sem.run_bind, run_undT hE hu]; rfl
    · obtain ⟨a, ha⟩ := ok_val m hk
      refine fin _ _ ha rfl rfl rfl ?_ (by simp) (by simp)
      unfold Op.equalIn; rw [Sem.run_bind, run_undT hE hu]; rfl
  · rename_i p q r' hu
    rcases eqNil_eq h with ⟨rfl, rfl, rfl⟩ | ⟨rfl, hk, rfl⟩ | ⟨hk, rfl, rfl⟩
    · refine fin _ _ rfl rfl rfl rfl ?_ (by simp [AV.val, NilK.val]) (by simp [AV.val, NilK.val])
      unfold Op.equalIn; rw [Sem.run_bind, run_undT hE hu]; rfl
    · obtain ⟨f, a, b, ha⟩ := ok_val m hk
      refine fin _ _ rfl ha rfl rfl ?_ (by simp [AV.val, NilK.val]) (by simp [AV.val, NilK.val])
      unfold Op.equalIn; rw [Sem.run_bind, run_undT hE hu]; rfl
    · obtain ⟨f, a, b, ha⟩ := ok_val m hk
      refine fin _ _ ha rfl rfl rfl ?_ (by simp) (by simp)
      unfold Op.equalIn; rw [Sem.run_bind, run_undT hE hu]; rfl
  · rename_i hu
    obtain ⟨a, b, rfl, rfl, rfl⟩ := eqBool_eq h
    refine fin _ _ rfl rfl rfl rfl ?_ (by simp [AV.val]) (by simp [AV.val])
    unfold Op.equalIn; rw [Sem.run_bind, run_undT hE hu]; rfl
  · cases h
/-- the whole of a binary operation -/
theorem binA_run {E : Env} (hE : EnvOk E) {op : BinOp} {t : TypeId} {x y v : AV} {n : Nat} (h : (binA E op t).f x y = some v) (hx : x.wf n) (hy : y.wf n) :
    v.wf n ∧ ∀ (m : Ren) (xo yo : Operand) (w : World), FactsOk E m.ρ → (do eqGuard op t xo yo (x.val m) (y.val m); binOp op t (x.val m) (y.val m) : Sem Value).run E.P w = .ok (v.val m) w := by
  have num : ∀ (m : Ren) (xo yo : Operand) (w : World), (x.val m ≠ .nilIface ∧ ∀ c, x.val m ≠ .agg c) → ∀ {r : Value}, (binOp op t (x.val m) (y.val m)).run E.P w = .ok r w →
      (do eqGuard op t xo yo (x.val m) (y.val m); binOp op t (x.val m) (y.val m) : Sem Value).run E.P w = .ok r w := by
    intro m xo yo w h1 r hr
    rw [eqGuard_other op t xo yo _ h1.1 h1.2, pure_bind]; exact hr
  have rest : binRest E op t x y = some v → v.wf n ∧ ∀ (m : Ren) (xo yo : Operand) (w : World), FactsOk E m.ρ → (do eqGuard op t xo yo (x.val m) (y.val m); binOp op t (x.val m) (y.val m) : Sem Value).run E.P w = .ok (v.val m) w := by
    clear h
    intro h
    unfold binRest at h
    cases hn : isNum x
    · rw [hn] at h
      simp only [cond_false] at h
      cases hs : strOf x with
      | some a =>
        rw [hs] at h
        simp only at h
        cases hs2 : strOf y with
        | none => rw [hs2] at h; cases h
        | some b =>
          rw [hs2] at h
          simp only at h
          have e1 := strOf_eq hs
          have e2 := strOf_eq hs2
          subst e1; subst e2
          exact ⟨(strBin_run (m := ⟨fun _ => 0, fun _ => 0, fun _ => 0, fun _ => 0⟩) h hx hy E.P t default).2,
            fun m xo yo w _ => num m xo yo w ⟨by simp [AV.val, strV], fun c => by simp [AV.val, strV]⟩ (strBin_run (n := n) h hx hy E.P t w).1⟩
      | none =>
        rw [hs] at h
        simp only at h
        unfold binEq at h
        split at h
        · rw [recO] at h
          cases he : eqA E.T t x y with
          | none => rw [he] at h; cases h
          | some r =>
            rw [he] at h; cases h
            refine ⟨trivial, fun m xo yo w _ => num m xo yo w (eqA_run hE he m w).2.2 (eqA_run hE he m w).1⟩
        · rw [recO] at h
          cases he : eqA E.T t x y with
          | none => rw [he] at h; cases h
          | some r =>
            rw [he] at h; cases h
            refine ⟨trivial, fun m xo yo w _ => num m xo yo w (eqA_run hE he m w).2.2 ?_⟩
            rw [(eqA_run hE he m w).2.1, notB_eq]; rfl
        · cases h
    · rw [hn] at h
      simp only [cond_true] at h
      refine ⟨binSym_wf h n, fun m xo yo w hf => num m xo yo w ?_ (binSym_run h hf E.P t w).1⟩
      cases x with
      | int k z => exact ⟨by simp [AV.val], fun c => by simp [AV.val]⟩
      | sym k z => exact ⟨by simp [AV.val], fun c => by simp [AV.val]⟩
      | _ => cases hn
  unfold binA at h
  split at h
  · rename_i cf hcf
    simp only [onInt_eq] at h
    split at h
    · rename_i k a
      split at h
      · rename_i j b
        rw [recB] at h
        split at h
        · rename_i hk
          have := eqK_eq hk
          subst this
          cases h
          exact ⟨trivial, fun m xo yo w _ => num m xo yo w ⟨by simp [AV.val], fun c => by simp [AV.val]⟩ (cmpI_run hcf E.P t k a b w)⟩
        · cases h
      · exact rest h
    · exact rest h
  · rw [recB] at h
    split at h
    · rename_i hsh
      simp only [onInt_eq] at h
      split at h
      · rename_i k a
        split at h
        · rename_i j b
          rw [recO] at h
          cases ha : (arI op).f k a b with
          | none => rw [ha] at h; cases h
          | some z =>
            rw [ha] at h
            cases h
            exact ⟨trivial, fun m xo yo w _ => num m xo yo w ⟨by simp [AV.val], fun c => by simp [AV.val]⟩ (arI_run ha E.P t j (.inl hsh) w)⟩
        · cases h
      · cases h
    · simp only [onInt_eq] at h
      split at h
      · rename_i k a
        split at h
        · rename_i j b
          rw [recB] at h
          split at h
          · rename_i hk
            rw [recO] at h
            cases ha : (arI op).f k a b with
            | none => rw [ha] at h; cases h
            | some z =>
              rw [ha] at h
              cases h
              exact ⟨trivial, fun m xo yo w _ => num m xo yo w ⟨by simp [AV.val], fun c => by simp [AV.val]⟩ (arI_run ha E.P t j (.inr (eqK_eq hk)) w)⟩
          · cases h
        · exact rest h
      · exact rest h
theorem pure_binOp {E : Env} (hE : EnvOk E) (c : Cx) (op : BinOp) (t : TypeId) (x y : Operand) (u : TypeId) : OpPure E c (.binOp op t x y u) :=
  pure_v (fun l tm _ => (binA E op t).f ((ev c x).f l tm) ((ev c y).f l tm)) rfl fun oper ho hok l tm s v hv hS hw => by
    have hx := ok1 hE c hok
    have hy := ok2 hE c hok
    obtain ⟨h1, h2⟩ := binA_run hE hv (hw.wf x hx) (hw.wf y hy)
    refine ⟨h1, fun m w ρ hf ha _ => ?_⟩
    unfold execOp; rw [ho]; simp only
    refine exec_v ?_
    rw [ha.val x hx, ha.val y hy]
    exact h2 m x y w hf
theorem unA_run {E : Env} (_hE : EnvOk E) {op : UnOp} {x v : AV} {n : Nat} (h : unA op x = some v) (m : Ren) (w : World) : v.wf n ∧ (Op.unary op (x.val m)).run E.P w = .ok (v.val m) w := by
  unfold unA at h
  split at h
  · cases h
    refine ⟨trivial, ?_⟩
    simp [AV.val, Op.unary, Op.intArith, wr_eq, subI_eq]
  · cases h
    refine ⟨trivial, ?_⟩
    rename_i k z
    have : (cond k.signed (-1) k.max : Int) = if k.signed then -1 else k.max := by cases k.signed <;> rfl
    simp [AV.val, Op.unary, Op.intBits, backI_eq, lowN_ofInt, this]
  · cases h
    refine ⟨trivial, ?_⟩
    simp [AV.val, Op.unary, notB_eq]
  · cases h
theorem pure_unOp {E : Env} (hE : EnvOk E) (c : Cx) (op : UnOp) (t : TypeId) (x : Operand) : OpPure E c (.unOp op t x) :=
  pure_v (fun l tm _ => unA op ((ev c x).f l tm)) rfl fun oper ho hok l tm s v hv hS hw => by
    have hx := ok1 hE c hok
    refine ⟨(unA_run hE hv ⟨fun _ => 0, fun _ => 0, fun _ => 0, fun _ => 0⟩ default).1, fun m w ρ hf ha _ => ?_⟩
    unfold execOp; rw [ho]; simp only
    refine exec_v ?_
    rw [ha.val x hx]
    exact (unA_run (n := 0) hE hv m w).2
end Go.Vx
