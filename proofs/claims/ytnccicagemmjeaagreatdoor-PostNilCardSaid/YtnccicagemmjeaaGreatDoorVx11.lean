/- The abstract executor: conversions, fields, elements, slices. -/
import Derived.Test.YtnccicagemmjeaaGreatDoorVx10
import Derived.Laws.BytesString
namespace Go.Vx

/-! ### Fields, elements -/
theorem onPtr_eq {E : Env} (_hE : EnvOk E) {β : Type} (d : β) (x : AV) (f : Nat → Nat → β) : onPtr d x f = match x with | .ptr b o => f b o | _ => d := by cases x <;> rfl
theorem onSlc_eq {E : Env} (_hE : EnvOk E) (x : AV) (f : Nat → Nat → Nat → Cap → Option AV) : onSlc x f = match x with | .slc b o n cp => f b o n cp | _ => none := by cases x <;> rfl
theorem onNat_eq {E : Env} (_hE : EnvOk E) (x : AV) (f : Nat → Option AV) : onNat x f = match x with | .int _ (.ofNat n) => f n | _ => none := by
  cases x with
  | int k n => cases n <;> rfl
  | _ => rfl
theorem natOf_eq {E : Env} (_hE : EnvOk E) {x : AV} {n : Nat} (h : natOf x = some n) : ∃ k, x = .int k (.ofNat n) := by
  cases x with
  | int k z => cases z with
    | ofNat z => cases h; exact ⟨k, rfl⟩
    | negSucc z => cases h
  | _ => cases h
theorem varK_agg {E : Env} (hE : EnvOk E) {t : TypeId} {n : Nat} (h : varK E.T t = .agg n) (w : World) : (isAgg t).run E.P w = .ok true w ∧ (sizeOf t).run E.P w = .ok n w := by
  unfold varK at h
  split at h
  · rename_i ha
    split at h
    · rename_i k hk
      cases h
      refine ⟨?_, run_sizeT hE hk w⟩
      unfold aggT at ha
      split at ha
      · rename_i f hu; simp [isAgg, run_undT hE hu]
      · rename_i f g hu; simp [isAgg, run_undT hE hu]
      · cases ha
      · cases ha
    · cases h
  · cases h
  · cases h
theorem varK_one {E : Env} (hE : EnvOk E) {t : TypeId} (h : varK E.T t = .one) (w : World) : (isAgg t).run E.P w = .ok false w := by
  unfold varK at h
  split at h
  · split at h <;> cases h
  · rename_i ha
    unfold aggT at ha
    split at ha
    · cases ha
    · cases ha
    · rename_i d h1 h2 hu
      simp only [isAgg, Sem.run_bind, run_undT hE hu, Result.andThen_ok]
      cases d <;> first | rfl | exact absurd rfl (h1 _) | exact absurd rfl (h2 _ _) | skip
      all_goals first | exact absurd hu (by simp_all) | skip
    · cases ha
  · cases h
theorem partA_run {E : Env} (hE : EnvOk E) {t : TypeId} {cs : List AV} {off : Nat} {v : AV} (h : partA E.T t cs off = some v) (m : Ren) (w : World) : (part t (valL m cs).toArray off).run E.P w = .ok (v.val m) w := by
  unfold partA at h
  split at h
  · rename_i n hk
    rw [recO] at h
    cases hs : sub cs off n with
    | none => rw [hs] at h; cases h
    | some l =>
      rw [hs] at h; cases h
      obtain ⟨h1, h2⟩ := varK_agg hE hk w
      unfold part
      rw [Sem.run_bind, h1]
      simp only [Result.andThen_ok, if_true, Sem.run_bind, h2, Sem.run_pure, AV.val]
      obtain ⟨g1, g2, g3⟩ := sub_eq hs
      congr 2
      apply Array.ext_getElem?
      intro i
      rw [List.extract_toArray, List.getElem?_toArray, List.getElem?_toArray, List.extract_eq_take_drop, valL_get, List.getElem?_take]
      split
      · rename_i hi
        rw [List.getElem?_drop, valL_get, g2 i (by omega)]
      · rename_i hi
        rw [List.getElem?_eq_none (by omega)]; rfl
  · rename_i hk
    rw [nth_eq] at h
    unfold part
    rw [Sem.run_bind, varK_one hE hk w]
    simp only [Result.andThen_ok]
    have : (valL m cs).toArray[off]? = some (v.val m) := by rw [List.getElem?_toArray, valL_get, h]; rfl
    simp [this]
  · cases h
theorem partA_wf {E : Env} (_hE : EnvOk E) {t : TypeId} {cs : List AV} {off n : Nat} {v : AV} (h : partA E.T t cs off = some v) (hw : wfL n cs) : v.wf n := by
  unfold partA at h
  split at h
  · rw [recO] at h
    cases hs : sub cs off _ with
    | none => rw [hs] at h; cases h
    | some l =>
      rw [hs] at h; cases h
      rw [wfL_iff] at hw
      exact (wfL_iff _ _).2 fun v hv => hw v (sub_mem hs v hv)
  · rw [nth_eq] at h
    exact (wfL_iff _ _).1 hw v (List.mem_of_getElem? h)
  · cases h
theorem pure_field {E : Env} (hE : EnvOk E) (c : Cx) (t : TypeId) (x : Operand) (f : Nat) : OpPure E c (.field t x f) :=
  pure_v (fun l tm _ => fieldA E t ((ev c x).f l tm) f) rfl fun oper ho hok l tm s v hv hS hw => by
    have hx := ok1 hE c hok
    have hwx := hw.wf x hx
    have hval := fun (m : Ren) (ρ : Operand → Value) (ha : ArgsVal c l tm m ρ) => ha.val x hx
    revert hv hwx hval
    generalize (ev c x).f l tm = u
    intro hv hwx hval
    unfold fieldA at hv
    split at hv
    · rename_i cs fields hu
      split at hv
      · rename_i fl hfl
        refine ⟨partA_wf hE hv hwx, fun m w ρ hf ha _ => ?_⟩
        unfold execOp; rw [ho]; simp only
        refine exec_v ?_
        rw [hval m ρ ha]
        simp only [Instr.field, Sem.run_bind, run_undT hE hu, Result.andThen_ok, hfl, asAgg, AV.val, Sem.run_pure]
        exact partA_run hE hv m w
      · cases hv
    · cases hv
theorem pure_fieldAddr {E : Env} (hE : EnvOk E) (c : Cx) (t : TypeId) (x : Operand) (f : Nat) : OpPure E c (.fieldAddr t x f) := by
  have hh : hop E c (.fieldAddr t x f) = fieldAddrA E c t x f := rfl
  unfold fieldAddrA at hh
  cases hd : fieldOff E t f with
  | none => rw [hd] at hh; exact pure_fail hh
  | some d =>
    rw [hd] at hh
    refine pure_v _ hh fun oper ho hok l tm s v hv hS hw => ?_
    have hx := ok1 hE c hok
    have hwx := hw.wf x hx
    have hval := fun (m : Ren) (ρ : Operand → Value) (ha : ArgsVal c l tm m ρ) => ha.val x hx
    revert hv hwx hval
    generalize (ev c x).f l tm = u
    intro hv hwx hval
    rw [onPtr_eq hE] at hv
    split at hv
    · rename_i b o
      cases hv
      refine ⟨hwx, fun m w ρ hf ha _ => ?_⟩
      unfold execOp; rw [ho]; simp only
      refine exec_v ?_
      rw [hval m ρ ha]
      unfold fieldOff at hd
      split at hd
      · rename_i fields hu
        split at hd
        · rename_i fl hfl
          split at hd
          · rename_i n hn
            cases hd
            simp only [Instr.fieldAt, Sem.run_bind, run_undT hE hu, Result.andThen_ok, hfl, AV.val, Instr.sureAddr, Sem.run_pure, fieldPlace, run_sizeT hE hn, Sem.run_ite, Addr.add_lit]
            rw [if_neg (by omega)]
            simp [Nat.add_assoc]
          · cases hd
        · cases hd
      · cases hd
    · cases hv
theorem sliceZ_eq {E : Env} (_hE : EnvOk E) {t : TypeId} {z : Nat} (h : sliceZ E t = some z) : ∃ e, undT E.T t = some (.slice e) ∧ sizeT E.T e = some z := by
  unfold sliceZ at h
  split at h
  · rename_i e hu; exact ⟨e, hu, h⟩
  · cases h
theorem pure_indexAddr {E : Env} (hE : EnvOk E) (c : Cx) (t : TypeId) (x i : Operand) : OpPure E c (.indexAddr t x i) :=
  pure_v (fun l tm _ => (indexAddrA E t).f ((ev c x).f l tm) ((ev c i).f l tm)) rfl fun oper ho hok l tm s v hv hS hw => by
    have hx := ok1 hE c hok
    have hi := ok2 hE c hok
    have hwx := hw.wf x hx
    have hval := fun (m : Ren) (ρ : Operand → Value) (ha : ArgsVal c l tm m ρ) => ha.val x hx
    have hval2 := fun (m : Ren) (ρ : Operand → Value) (ha : ArgsVal c l tm m ρ) => ha.val i hi
    revert hv hwx hval hval2
    generalize (ev c x).f l tm = u
    generalize (ev c i).f l tm = u2
    intro hv hwx hval hval2
    unfold indexAddrA at hv
    split at hv
    · rename_i z hz
      simp only [onNat_eq hE, onSlc_eq hE] at hv
      split at hv
      · rename_i k n
        split at hv
        · rename_i b o len cp
          rw [recB] at hv
          split at hv
          · rename_i hle
            cases hv
            have hle := Nat.le_of_ble_eq_true hle
            refine ⟨hwx, fun m w ρ hf ha _ => ?_⟩
            unfold execOp; rw [ho]; simp only
            refine exec_v ?_
            rw [hval m ρ ha, hval2 m ρ ha]
            obtain ⟨e, hu, hsz⟩ := sliceZ_eq hE hz
            have h1 : 0 ≤ Int.ofNat n ∧ Int.ofNat n < (len : Int) := by simp only [Int.ofNat_eq_natCast]; omega
            simp only [Instr.indexAt, AV.val, asIntOf, Sem.run_bind, Sem.run_pure, Result.andThen_ok, run_undT hE hu, if_pos h1, run_sizeT hE hsz, Addr.add_lit]
            simp [Nat.add_assoc]
          · cases hv
        · cases hv
      · cases hv
    · cases hv
theorem pure_index {E : Env} (hE : EnvOk E) (c : Cx) (t : TypeId) (x i : Operand) : OpPure E c (.index t x i) :=
  pure_v (fun l tm _ => indexA E t ((ev c x).f l tm) ((ev c i).f l tm)) rfl fun oper ho hok l tm s v hv hS hw => by
    have hx := ok1 hE c hok
    have hi := ok2 hE c hok
    have hwx := hw.wf x hx
    have hval := fun (m : Ren) (ρ : Operand → Value) (ha : ArgsVal c l tm m ρ) => ha.val x hx
    have hval2 := fun (m : Ren) (ρ : Operand → Value) (ha : ArgsVal c l tm m ρ) => ha.val i hi
    revert hv hwx hval hval2
    generalize (ev c x).f l tm = u
    generalize (ev c i).f l tm = u2
    intro hv hwx hval hval2
    unfold indexA at hv
    split at hv
    · rename_i n hn
      obtain ⟨k, rfl⟩ := natOf_eq hE hn
      rw [recO] at hv
      cases hs : strOf u with
      | none => rw [hs] at hv; cases hv
      | some a =>
        rw [hs] at hv
        have := strOf_eq hs
        subst this
        simp only at hv
        rw [recO, nth_eq] at hv
        cases hc : a[n]? with
        | none => rw [hc] at hv; cases hv
        | some b =>
          rw [hc] at hv
          simp only at hv
          rw [recB] at hv
          split at hv
          · rename_i hst
            cases hv
            refine ⟨trivial, fun m w ρ hf ha _ => ?_⟩
            unfold execOp; rw [ho]; simp only
            refine exec_v ?_
            rw [hval m ρ ha, hval2 m ρ ha]
            have hu : undT E.T t = some .string := by
              unfold isStrT at hst
              split at hst
              · assumption
              · cases hst
            have hlt : b < 256 := hwx b (List.mem_of_getElem? hc)
            have hget : (⟨(a.map UInt8.ofNat).toArray⟩ : ByteArray)[n]? = some (UInt8.ofNat b) := by
              have hl : n < a.length := by
                rcases Nat.lt_or_ge n a.length with h | h
                · exact h
                · rw [List.getElem?_eq_none h] at hc; cases hc
              have hsz : n < (⟨(a.map UInt8.ofNat).toArray⟩ : ByteArray).size := by rw [strV_size]; exact hl
              rw [getElem?_pos _ n hsz]
              congr 1
              show ((a.map UInt8.ofNat).toArray)[n] = _
              have : a[n] = b := by rw [List.getElem?_eq_getElem hl] at hc; exact Option.some.inj hc
              simp [this]
            simp only [Instr.index, AV.val, asIntOf, Sem.run_bind, Sem.run_pure, Result.andThen_ok, run_undT hE hu, strV]
            have h1 : (0 : Int) ≤ Int.ofNat n := by simp only [Int.ofNat_eq_natCast]; omega
            simp only [if_pos h1, Int.toNat_natCast, Int.ofNat_eq_natCast, hget, Sem.run_pure]
            simp [UInt8.toNat_ofNat', Nat.mod_eq_of_lt hlt]
          · cases hv
    · cases hv
theorem pure_typeAssert {E : Env} (hE : EnvOk E) (c : Cx) (x : Operand) (xt t : TypeId) (ok : Bool) : OpPure E c (.typeAssert x xt t ok) := by
  have hh : hop E c (.typeAssert x xt t ok) = typeAssertA E c x t ok := rfl
  unfold typeAssertA at hh
  cases hu : undT E.T t with
  | none => rw [hu] at hh; exact pure_fail hh
  | some d =>
    rw [hu] at hh
    by_cases hd : ∃ ms, d = .interface ms
    · obtain ⟨ms, rfl⟩ := hd; exact pure_fail hh
    · refine pure_v (fun l tm _ => assertA t ok ((ev c x).f l tm)) (by rw [hh]; cases d <;> first | rfl | exact absurd ⟨_, rfl⟩ hd) fun oper ho hok l tm s v hv hS hw => ?_
      have hx := ok1 hE c hok
      have hwx := hw.wf x hx
      have hval := fun (m : Ren) (ρ : Operand → Value) (ha : ArgsVal c l tm m ρ) => ha.val x hx
      revert hv hwx hval
      generalize (ev c x).f l tm = u
      intro hv hwx hval
      unfold assertA at hv
      split at hv
      · rename_i a b
        rw [recB] at hv
        split at hv
        · rename_i he
          have := Nat.eq_of_beq_eq_true he
          subst this
          cases hv
          refine ⟨?_, fun m w ρ hf ha _ => ?_⟩
          · cases ok
            · exact hwx
            · exact ⟨hwx, trivial, trivial⟩
          · unfold execOp; rw [ho]; simp only
            refine exec_v ?_
            rw [hval m ρ ha]
            simp only [Instr.typeAssert, AV.val, Sem.run_bind, run_undT hE hu, Result.andThen_ok]
            cases d <;> first | exact absurd ⟨_, rfl⟩ hd | (simp only [if_true, Sem.run_pure]; cases ok <;> rfl)
        · cases hv
      · cases hv
end Go.Vx
