/- The abstract executor: regions that draw their order: what is read stays what it was. -/
import Derived.Test.YtnccicagemmjeaaGreatDoorVx32
namespace Go.Vx
theorem lookup_run2 {E : Env} (hE : EnvOk E) {m : Ren} {s : St} {w : World} {t : TypeId} {x k v : AV} {ok : Bool} {n : Nat} (hwf : ∀ es, mapOf s x = some es → ∀ e ∈ es, e.key.wf n ∧ e.val.wf n)
    (hM : ∀ r es clock, x = .mp r → s.hp.get r = some (.mapo es clock) → w.heap[m.blk r]? = some (.map (es.map (ME.ent m)).toArray clock)) (hk : k.wf n) (h : lookupA E t x k ok s = some v) :
    (Instr.lookup t (x.val m) (k.val m) ok).run E.P w = .ok (v.val m) w := by
  unfold lookupA at h
  split at h
  · rename_i kt et hu
    split at h
    · rename_i es hes
      cases hko : keyOk E kt k
      · rw [hko] at h; cases h
      · rw [hko] at h
        simp only [cond_true] at h
        have hwf := hwf es hes
        have tail : ∀ arr : Array MapEntry, arr = (es.map (ME.ent m)).toArray →
            ((Instr.checkKey arr.isEmpty 10000 kt (k.val m)).run E.P w).andThen (fun _ w => ((Instr.findKey kt (k.val m) arr.toList).run E.P w).andThen fun f w => (match f with
              | some (_, v) => do
                let x ← pure (v, true)
                pure (if ok then .tuple #[x.1, .bool x.2] else x.1)
              | none => do
                let z ← zeroValue et
                let x ← pure (z, false)
                pure (if ok then .tuple #[x.1, .bool x.2] else x.1) : Sem Value).run E.P w) = .ok (v.val m) w := by
          intro arr harr
          rw [checkKey_run hE hko m arr.isEmpty w]
          simp only [Result.andThen_ok]
          subst harr
          split at h
          · rename_i j v' hf
            cases h
            rw [findK_run hE hko hk m w es _ (fun e he => (hwf e he).1) hf]
            simp only [Result.andThen_ok, Option.map_some, Sem.run_bind, Sem.run_pure, okPair_val hE]
          · rename_i hf
            rw [Option.map_eq_some_iff] at h
            obtain ⟨z, hz, rfl⟩ := h
            rw [findK_run hE hko hk m w es _ (fun e he => (hwf e he).1) hf]
            simp only [Result.andThen_ok, Option.map_none, Sem.run_bind, run_zeroT hE hz m, Sem.run_pure, okPair_val hE]
          · cases h
        have hcase : (x = .nil .m ∧ es = []) ∨ ∃ r clock, x = .mp r ∧ w.heap[m.blk r]? = some (.map (es.map (ME.ent m)).toArray clock) := by
          unfold mapOf at hes
          split at hes
          · cases hes; exact .inl ⟨rfl, rfl⟩
          · rename_i r
            split at hes
            · rename_i es' clock hb
              cases hes
              exact .inr ⟨r, clock, rfl, hM r _ clock rfl (obj_get hE hb trivial)⟩
            · cases hes
          · cases hes
        rcases hcase with ⟨rfl, rfl⟩ | ⟨r, clock, rfl, hh⟩
        · have := tail #[] rfl
          unfold Instr.lookup
          simp only [Sem.run_bind, run_undT hE hu, Result.andThen_ok, AV.val, NilK.val, Sem.run_pure]
          exact this
        · have := tail _ rfl
          unfold Instr.lookup
          simp only [Sem.run_bind, run_undT hE hu, Result.andThen_ok, AV.val, MapKept.run_getObj_map hh, Sem.run_pure]
          exact this
    · cases h
  · cases h
theorem foot_key {E : Env} (hE : EnvOk E) {c : Cx} {o : Op} (hok : okOs c (opL o) = true) {l : List AV} {tm : Tm} {n : Nat} (hw : ArgsWf c l tm n) {fs : List Foot} (h : (footOf E c o).f l tm = some fs) {t : TypeId} {x k : AV} {ok : Bool} (hf : Foot.look t x k ok ∈ fs) : k.wf n := by
  have : ∃ x i ok, o = .lookup t x i ok ∧ k = (ev c i).f l tm := by
    revert h hf
    unfold footOf
    cases o <;> try (intro h hf; cases h; cases hf; done)
    case load t a =>
      simp only
      cases varK E.T t with
      | agg n => intro h hf; simp only [onPtr_eq hE] at h; split at h <;> cases h; simp at hf
      | one => intro h hf; simp only [onPtr_eq hE] at h; split at h <;> cases h; simp at hf
      | no => intro h hf; cases h
    case lookup t' x' i' ok' => intro h hf; cases h; simp only [List.mem_singleton, Foot.look.injEq] at hf; exact ⟨x', i', ok', by rw [hf.1], hf.2.2.1⟩
    case convert a b x => intro h hf; simp only at h; split at h <;> cases h <;> simp at hf
    case call cl => intro h hf; simp only at h; split at h <;> cases h <;> simp at hf
    case slice t x a b d => intro h hf; simp only at h; split at h <;> cases h <;> simp at hf
  obtain ⟨x', i, ok', rfl, rfl⟩ := this
  exact hw.wf i (ok2 hE c hok)
def footNm : Foot → Option Nat
  | .cells b _ _ => some b
  | .look _ (.mp r) _ _ => some r
  | .look _ _ _ _ => none
  | .len r => some r
  | .row b => some b
theorem lookup_congr {E : Env} (_hE : EnvOk E) {s s' : St} {t : TypeId} {x k : AV} {ok : Bool} (h : ∀ r, x = .mp r → s'.hp.get r = s.hp.get r) : lookupA E t x k ok s' = lookupA E t x k ok s := by
  have : mapOf s' x = mapOf s x := by
    unfold mapOf
    cases x with
    | mp r => simp only [St.obj, h r rfl]
    | nil j => cases j <;> rfl
    | _ => rfl
  unfold lookupA
  rw [this]
theorem foot_keep {E : Env} (hE : EnvOk E) {m : Ren} {w : World} {s s' : St} {f : Foot} (h : ∀ b, footNm f = some b → s'.hp.get b = s.hp.get b) (hf : FootOk E m w s f) : FootOk E m w s' f := by
  cases f with
  | cells b o n =>
    intro xs hl
    refine hf xs ?_
    unfold loadCells at hl ⊢
    rw [h b rfl] at hl
    exact hl
  | look t x k ok =>
    intro v hv
    refine hf v ?_
    rw [← hv]
    exact (lookup_congr hE fun r hr => by subst hr; exact h r rfl).symm
  | len r => intro es clock hb; exact hf es clock (by rw [← h r rfl]; exact hb)
  | row b => intro cells es g p hb; exact hf cells es g p (by rw [← h b rfl]; exact hb)
/-- at an object that is known, all is known -/
theorem foot_known {E : Env} (hE : EnvOk E) {m : Ren} {w : World} {s : St} {f : Foot} {b n : Nat} {ob : HO} (hb : footNm f = some b) (hg : s.hp.get b = some ob) (hr : ob.rel m w.heap b) (hwf : ob.wf n) (hk : ∀ t x k ok, f = .look t x k ok → k.wf n) : FootOk E m w s f := by
  cases f with
  | cells b' o n' =>
    cases hb
    intro xs hl i v hv
    obtain ⟨cells, es, g, p, h1, h2⟩ := loadCells_eq hl
    rw [hg] at h1; cases h1
    obtain ⟨hlen, hgt, _⟩ := sub_eq h2
    have hi : i < n' := by
      rcases Nat.lt_or_ge i xs.length with h | h
      · omega
      · rw [List.getElem?_eq_none h] at hv; cases hv
    rw [hgt i hi] at hv
    rw [Nat.add_assoc]
    exact row_cell hr hv
  | look t x k ok =>
    cases x with
    | mp r =>
      cases hb
      intro v hv
      refine lookup_run2 hE (n := n) (fun es hes e he => ?_) (fun r es clock hx hgr => ?_) (hk _ _ _ _ rfl) hv
      · unfold mapOf at hes
        simp only [St.obj, hg, Option.getD_some] at hes
        cases ob with
        | mapo es' clock => cases hes; exact hwf e he
        | _ => cases hes
      · cases hx
        rw [hg] at hgr; cases hgr
        exact hr
    | _ => cases hb
  | len r =>
    cases hb
    intro es clock h1
    rw [hg] at h1; cases h1
    exact ⟨_, clock, hr, by simp⟩
  | row b' =>
    cases hb
    intro cells es g p h1
    rw [hg] at h1; cases h1
    obtain ⟨_, _, _, _, _, _, h, _⟩ := hr
    exact h
/-- there is nothing there -/
theorem foot_void {E : Env} (_hE : EnvOk E) {m : Ren} {w : World} {s : St} {f : Foot} {b : Nat} (hb : footNm f = some b) (hg : s.hp.get b = none) : FootOk E m w s f := by
  cases f with
  | cells b' o n' => cases hb; intro xs hl; obtain ⟨_, _, _, _, h1, _⟩ := loadCells_eq hl; rw [hg] at h1; cases h1
  | look t x k ok =>
    cases x with
    | mp r =>
      cases hb
      intro v hv
      unfold lookupA mapOf at hv
      simp only [St.obj, hg, Option.getD_none] at hv
      split at hv <;> cases hv
    | _ => cases hb
  | len r => cases hb; intro es clock h1; rw [hg] at h1; cases h1
  | row b' => cases hb; intro cells es g p h1; rw [hg] at h1; cases h1
theorem foot_nil {E : Env} (hE : EnvOk E) {m : Ren} {w : World} {s : St} {f : Foot} {n : Nat} (hb : footNm f = none) (hk : ∀ t x k ok, f = .look t x k ok → k.wf n) : FootOk E m w s f := by
  cases f with
  | look t x k ok =>
    intro v hv
    refine lookup_run2 hE (n := n) (fun es hes e he => ?_) (fun r es clock hx => ?_) (hk _ _ _ _ rfl) hv
    · cases x with
      | mp r => cases hb
      | nil j =>
        unfold mapOf at hes
        cases j <;> cases hes
        cases he
      | _ => cases hes
    · subst hx; cases hb
  | _ => cases hb
/-- at a state that stands for the world -/
theorem foot_base {E : Env} (hE : EnvOk E) {m : Ren} {w : World} {s : St} {f : Foot} {n : Nat} (hR : Rel m s w.heap) (hn : s.nx ≤ n) (hk : ∀ t x k ok, f = .look t x k ok → k.wf n) : FootOk E m w s f := by
  cases hb : footNm f with
  | none => exact foot_nil hE hb hk
  | some b =>
    cases hg : s.hp.get b with
    | none => exact foot_void hE hb hg
    | some ob => exact foot_known hE hb hg (hR.obj b ob hg) (HO.wf_mono hn _ (hR.lt b ob hg).2) hk
/-- through an effect that leaves it the same -/
theorem foot_same {E : Env} (hE : EnvOk E) {m : Ren} {w : World} {s s' se : St} {f : Foot} (hsame : footSame E se s.hp s'.hp s'.nx f = true) (hw : WfS s') (hf : FootOk E m w s f) : FootOk E m w s' f := by
  have void : ∀ b, footNm f = some b → Nat.ble s'.nx b = true → FootOk E m w s' f := by
    intro b hb hle
    refine foot_void hE hb ?_
    cases hg : s'.hp.get b with
    | none => rfl
    | some o => have := (hw b o hg).1; have := Nat.le_of_ble_eq_true hle; omega
  cases f with
  | cells b o n =>
    have hsame : cond (Nat.ble s'.nx b) true (match s.hp.get b, s'.hp.get b with
      | some (.row c _ _ _), some (.row c' _ _ _) => match sub c o n, sub c' o n with
        | some x, some y => avL x y
        | _, _ => false
      | _, _ => false) = true := hsame
    cases hle : Nat.ble s'.nx b with
    | true => exact void b rfl hle
    | false =>
      rw [hle] at hsame
      simp only [cond_false] at hsame
      intro xs hl
      obtain ⟨cells', es', g', p', h1, h2⟩ := loadCells_eq hl
      rw [h1] at hsame
      split at hsame
      · rename_i c es g p c' _ _ _ hg hg'
        cases hg'
        rw [h2] at hsame
        split at hsame
        · rename_i x y hx hy
          cases hy
          have := avL_eq _ _ hsame
          subst this
          refine hf x ?_
          unfold loadCells
          rw [recO, hg]
          simp only [rowOf]
          exact hx
        · cases hsame
      · cases hsame
  | look t x k ok =>
    cases x with
    | mp r =>
      have hsame : cond (Nat.ble s'.nx r) true (match lookupA E t (.mp r) k ok (se.withHp s.hp), lookupA E t (.mp r) k ok (se.withHp s'.hp) with
        | some x, some y => x.beq y
        | _, _ => false) = true := hsame
      cases hle : Nat.ble s'.nx r with
      | true => exact void r rfl hle
      | false =>
        rw [hle] at hsame
        simp only [cond_false] at hsame
        intro v hv
        have e1 : lookupA E t (.mp r) k ok (se.withHp s.hp) = lookupA E t (.mp r) k ok s := lookup_congr hE fun r _ => by rw [withHp_eq]
        have e2 : lookupA E t (.mp r) k ok (se.withHp s'.hp) = lookupA E t (.mp r) k ok s' := lookup_congr hE fun r _ => by rw [withHp_eq]
        rw [e1, e2, hv] at hsame
        split at hsame
        · rename_i x y hx hy
          cases hy
          have := AV.beq_eq _ _ hsame
          subst this
          exact hf _ hx
        · cases hsame
    | _ => exact foot_keep hE (fun b hb => by cases hb) hf
  | len r =>
    have hsame : cond (Nat.ble s'.nx r) true (match s.hp.get r, s'.hp.get r with
      | some (.mapo e _), some (.mapo e' _) => Nat.beq (lenL e) (lenL e')
      | _, _ => false) = true := hsame
    cases hle : Nat.ble s'.nx r with
    | true => exact void r rfl hle
    | false =>
      rw [hle] at hsame
      simp only [cond_false] at hsame
      intro es clock h1
      rw [h1] at hsame
      split at hsame
      · rename_i e _ e' _ hg hg'
        cases hg'
        have := Nat.eq_of_beq_eq_true hsame
        rw [lenL_eq, lenL_eq] at this
        obtain ⟨es', clock', k1, k2⟩ := hf _ _ hg
        exact ⟨es', clock', k1, by rw [k2, this]⟩
      · cases hsame
  | row b =>
    have hsame : cond (Nat.ble s'.nx b) true (match s.hp.get b, s'.hp.get b with
      | some (.row c es _ _), some (.row c' es' _ _) => Nat.beq (lenL c) (lenL c') && Nat.beq es es'
      | _, _ => false) = true := hsame
    cases hle : Nat.ble s'.nx b with
    | true => exact void b rfl hle
    | false =>
      rw [hle] at hsame
      simp only [cond_false] at hsame
      intro cells es g p h1
      rw [h1] at hsame
      split at hsame
      · rename_i c es _ _ c' es' _ _ hg hg'
        cases hg'
        rw [Bool.and_eq_true] at hsame
        have k1 := Nat.eq_of_beq_eq_true hsame.1
        have k2 := Nat.eq_of_beq_eq_true hsame.2
        rw [lenL_eq, lenL_eq] at k1
        subst k2
        rw [← k1]
        exact hf _ _ _ _ hg
      · cases hsame
theorem footOut_nm {E : Env} (_hE : EnvOk E) {lo hi : Nat} {f : Foot} (h : footOut lo hi f = true) {b : Nat} (hb : footNm f = some b) : b < lo ∨ hi ≤ b := by
  cases f with
  | cells b' o n => cases hb; exact outB_eq h
  | look t x k ok =>
    cases x with
    | mp r => cases hb; exact outB_eq h
    | _ => cases hb
  | len r => cases hb; exact outB_eq h
  | row b' => cases hb; exact outB_eq h
/-- the operands of an operation that turns no object -/
theorem operands_opL {E : Env} (_hE : EnvOk E) {o : Op} (hi : isE o = false) : ∀ x ∈ o.operands, x ∈ opL o := by
  intro x hx
  cases o <;> try (cases hi; done)
  case call c =>
    have hc : ∃ b, c.callee = .builtin b := by
      cases hcc : c.callee with
      | builtin b => exact ⟨b, rfl⟩
      | value f => unfold isE at hi; simp only [hcc] at hi; cases hi
      | invoke r n => unfold isE at hi; simp only [hcc] at hi; cases hi
    obtain ⟨b, hb⟩ := hc
    have e : opL (.call c) = c.args.toList := by show (match c.callee with | .value f => f :: c.args.toList | _ => c.args.toList) = _; rw [hb]
    rw [e]
    simp only [Op.operands, Call.operands, hb] at hx
    simpa using hx
  case build t ps =>
    have : ∀ l : List (Nat × Operand), partL l = l.map (·.2) := fun l => by induction l with | nil => rfl | cons p l ih => simp [partL, ih]
    simp only [Op.operands] at hx
    show x ∈ partL ps.toList
    rw [this]
    simpa using hx
  case buildSlice t n ps =>
    have : ∀ l : List (Nat × Operand), partL l = l.map (·.2) := fun l => by induction l with | nil => rfl | cons p l ih => simp [partL, ih]
    simp only [Op.operands] at hx
    show x ∈ partL ps.toList
    rw [this]
    simpa using hx
  case makeFunc f a b =>
    show x ∈ appL a.toList b.toList
    rw [appL_eq]
    simpa [Op.operands] using hx
  case makeMap t r =>
    show x ∈ optL r []
    cases r with
    | none => simp [Op.operands] at hx
    | some y => simpa [Op.operands, optL] using hx
  case slice t y l h m =>
    show x ∈ y :: optL l (optL h (optL m []))
    cases l <;> cases h <;> cases m <;> simpa [Op.operands, optL] using hx
  case alloc t => simp [Op.operands] at hx
  all_goals (first | (simpa [Op.operands, opL] using hx))
end Go.Vx
