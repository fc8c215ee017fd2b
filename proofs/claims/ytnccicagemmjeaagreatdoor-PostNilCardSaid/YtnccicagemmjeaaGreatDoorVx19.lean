/- The abstract executor: a range's step, append. -/
import Derived.Test.YtnccicagemmjeaaGreatDoorVx18
namespace Go.Vx

/-! ### A range's step -/
theorem memN_eq {E : Env} (_hE : EnvOk E) (n : Nat) : ∀ (l : List Nat), memN n l = l.contains n := by
  intro l
  induction l with
  | nil => rfl
  | cons a l ih =>
    rw [List.contains_cons]
    show (Nat.beq n a || memN n l) = _
    rw [ih]
    have : Nat.beq n a = (n == a) := by
      cases h : Nat.beq n a
      · have : n ≠ a := fun e => by rw [e, Nat.beq_refl] at h; cases h
        simp [this]
      · have := Nat.eq_of_beq_eq_true h
        simp [this]
    rw [this]
theorem unseen_eq {E : Env} (hE : EnvOk E) (m : Ren) (seen : List Nat) : ∀ (es : List ME), (es.map (ME.ent m)).filter (fun e => !seen.contains e.born) = (unseen seen es).map (ME.ent m) := by
  intro es
  induction es with
  | nil => rfl
  | cons e es ih =>
    show _ = (cond (memN e.born seen) (unseen seen es) (e :: unseen seen es)).map (ME.ent m)
    rw [List.map_cons, List.filter_cons, ih, memN_eq hE]
    show (if (!seen.contains e.born) = true then _ else _) = _
    cases seen.contains e.born <;> rfl
theorem unseen_sub {E : Env} (_hE : EnvOk E) (seen : List Nat) : ∀ (es : List ME), ∀ e ∈ unseen seen es, e ∈ es := by
  intro es
  induction es with
  | nil => intro e h; cases h
  | cons x es ih =>
    intro e h
    have h : e ∈ cond (memN x.born seen) (unseen seen es) (x :: unseen seen es) := h
    cases hm : memN x.born seen
    · rw [hm] at h
      rcases List.mem_cons.1 h with rfl | h
      · simp
      · simp [ih e h]
    · rw [hm] at h
      simp [ih e h]
theorem bornOk_eq {E : Env} (_hE : EnvOk E) (since : Nat) : ∀ (es : List ME), bornOk since es = true → ∀ e ∈ es, e.born < since := by
  intro es
  induction es with
  | nil => intro _ e h; cases h
  | cons x es ih =>
    intro h e he
    have h : (Nat.ble (Nat.succ x.born) since && bornOk since es) = true := h
    rw [Bool.and_eq_true] at h
    rcases List.mem_cons.1 he with rfl | he
    · exact Nat.le_of_ble_eq_true h.1
    · exact ih h.2 e he
theorem next_run {E : Env} (hE : EnvOk E) {r : Nat} {isStr : Bool} {s s' : St} {v : AV} {m : Ren} {w : World} (h : nextA (.ptr r 0) isStr s = some (v, s')) (hR : Rel m s w.heap) (ty : TypeId) :
    ∃ w', (Instr.next (AV.val m (.ptr r 0)) isStr ty).run E.P w = .ok (v.val m) w' ∧ Rel m s' w'.heap ∧ Grow m s w m s' w' ∧ v.wf s'.nx ∧ s'.df = s.df := by
  replace h : (match s.obj r with
    | .mit none _ _ _ => cond isStr none (some (.tup [.bool false], s))
    | .mit (some m) since seen last => cond (isStr || Nat.ble (Nat.succ last) since) none (nextMap r m since seen s)
    | _ => none) = some (v, s') := h
  split at h
  · rename_i since seen last hb
    have hb := obj_get hE hb trivial
    obtain ⟨hsh, hh, hget⟩ := run_getIter hE hR hb
    cases isStr
    · cases h
      refine ⟨w, ?_, hR, .refl _ _ _, ⟨trivial, trivial⟩, rfl⟩
      simp only [AV.val, hsh, Nat.add_zero]
      unfold Instr.next
      simp only [Sem.run_bind, hget, Result.andThen_ok, Option.map_none]
      rfl
    · cases h
  · rename_i mm since seen last hb
    have hb := obj_get hE hb trivial
    obtain ⟨hsh, hh, hget⟩ := run_getIter hE hR hb
    cases hc : (isStr || Nat.ble (Nat.succ last) since)
    · rw [hc] at h
      simp only [cond_false] at h
      rw [Bool.or_eq_false_iff] at hc
      obtain ⟨rfl, hl⟩ := hc
      have hl : since ≤ last := by
        rcases Nat.lt_or_ge last since with h' | h'
        · rw [Nat.ble_eq_true_of_le h'] at hl; cases hl
        · exact h'
      unfold nextMap at h
      split at h
      · rename_i es clock ho
        have ho := obj_get hE ho trivial
        have hh2 : w.heap[m.blk mm]? = some (.map (es.map (ME.ent m)).toArray clock) := hR.obj mm _ ho
        have hwf : ∀ e ∈ es, e.key.wf s.nx ∧ e.val.wf s.nx := (hR.lt mm _ ho).2
        cases hq : (Nat.beq clock since && bornOk since es)
        · rw [hq] at h; cases h
        · rw [hq] at h
          simp only [cond_true] at h
          rw [Bool.and_eq_true] at hq
          have hcl := Nat.eq_of_beq_eq_true hq.1
          have hborn := bornOk_eq hE since es hq.2
          have e1 : (!seen.toArray.isEmpty && !(es.map (ME.ent m)).toArray.isEmpty && (es.map (ME.ent m)).toArray.all (·.born ≥ last)) = false := by
            cases es with
            | nil => simp
            | cons e es =>
              have := hborn e (by simp)
              have : ¬ last ≤ (ME.ent m e).born := by show ¬ last ≤ e.born; omega
              simp [this]
          have e2 : (es.map (ME.ent m)).toArray.filter (fun e => !seen.toArray.contains e.born) = ((unseen seen es).map (ME.ent m)).toArray := by
            rw [List.filter_toArray]
            simp only [List.contains_toArray]
            rw [unseen_eq hE]
          have e3 : ((unseen seen es).map (ME.ent m)).toArray.filter (fun e => decide (e.born < since)) = ((unseen seen es).map (ME.ent m)).toArray := by
            rw [List.filter_toArray]
            congr 1
            rw [List.filter_eq_self]
            intro e he
            rw [List.mem_map] at he
            obtain ⟨e0, h0, rfl⟩ := he
            exact decide_eq_true (hborn e0 (unseen_sub hE seen es e0 h0))
          have e4 : ((unseen seen es).map (ME.ent m)).toArray.filter (fun e => decide (e.born ≥ since)) = #[] := by
            rw [List.filter_toArray]
            have : ((unseen seen es).map (ME.ent m)).filter (fun e => decide (e.born ≥ since)) = [] := by
              rw [List.filter_eq_nil_iff]
              intro e he
              rw [List.mem_map] at he
              obtain ⟨e0, h0, rfl⟩ := he
              have := hborn e0 (unseen_sub hE seen es e0 h0)
              simp only [decide_eq_true_eq]
              show ¬ e0.born ≥ since
              omega
            rw [this]
          simp only [AV.val, hsh, Nat.add_zero]
          unfold Instr.next
          simp only [Sem.run_bind, hget, Result.andThen_ok, Option.map_some, MapKept.run_getObj_map hh2, e1, Bool.false_eq_true, if_false, e2, e3, e4]
          split at h
          · rename_i hu
            cases h
            refine ⟨w, ?_, hR, .refl _ _ _, ⟨trivial, trivial⟩, rfl⟩
            rw [hu]
            simp [Question.forced, valL, AV.val]
          · rename_i e hu
            cases h
            have hm : e ∈ es := unseen_sub hE seen es e (by rw [hu]; simp)
            have hlt : m.blk r < w.heap.size := (Array.getElem?_eq_some_iff.1 hh).1
            obtain ⟨h1, h2⟩ := setO_ok hE (o' := .mit (some mm) since (appL seen [e.born]) clock) (O := .mapIter (some (m.blk mm)) since (seen.toArray.push e.born) clock) hR hb trivial rfl rfl
              (fun x hx => by cases hx; exact (hR.lt mm _ ho).1) ⟨hsh, by rw [appL_eq]; simp [hlt]⟩
            refine ⟨_, ?_, h1, h2, ?_, by rw [setO_eq hE]⟩
            · rw [hu]
              have hset : ∀ O, (setObj (m.blk r) O).run E.P w = .ok () { w with heap := w.heap.setIfInBounds (m.blk r) O } := by
                intro O
                simp [setObj, Sem.run, hh]
              simp [Question.forced, valL, AV.val, hset, ME.ent]
            · rw [setO_eq hE]; exact ⟨trivial, (hwf e hm).1, (hwf e hm).2, trivial⟩
          · cases h
      · cases h
    · rw [hc] at h; cases h
  · cases h
theorem does_next {E : Env} (hE : EnvOk E) (c : Cx) (x : Operand) (isStr : Bool) : OpDoes E c (.next x isStr) :=
  does_s hE c (fun l tm s => nextA ((ev c x).f l tm) isStr s) rfl fun oper ho hok l tm s v s' hv m w ρ hR hf hw ha => by
    have h1 := ok1 hE c hok
    have e1 := ha.val x h1
    suffices hs : ∃ w', (Instr.next (ρ x) isStr oper.type).run E.P w = .ok (v.val m) w' ∧ Rel m s' w'.heap ∧ Grow m s w m s' w' ∧ v.wf s'.nx ∧ s'.df = s.df by
      obtain ⟨w', hrun, hR', hG, hwf, hdf⟩ := hs
      refine ⟨m, w', _, ?_, .inl rfl, hR', hG, hwf, hdf⟩
      unfold execOp; rw [ho]; simp only
      rw [run_v, hrun]; rfl
    rw [e1]
    clear e1
    revert hv
    generalize (ev c x).f l tm = y
    intro hv
    have : ∃ r, y = .ptr r 0 := by
      unfold nextA at hv
      split at hv
      · exact ⟨_, rfl⟩
      · cases hv
    obtain ⟨r, rfl⟩ := this
    exact next_run hE hv hR oper.type
end Go.Vx
