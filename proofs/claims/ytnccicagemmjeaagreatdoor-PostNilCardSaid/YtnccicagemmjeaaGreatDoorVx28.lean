/- The abstract executor: ranges over functions, rounds, all code, all calls. -/
import Derived.Test.YtnccicagemmjeaaGreatDoorVx27
namespace Go.Vx

theorem runOk_region {E : Env} (hE : EnvOk E) {way : Way} (hW : WayOk E way) (G N : Nat) (rd : Option Nat) (id : Nat) (ops : Array Oper) :
    RunOk E G N rd (.region id ops false) fun t s k => (runAll E N ops.toList ops.toList ⟨G, []⟩).f way [] t s k := by
  intro t s k hr m w a n hF hrd
  refine wpIn_region ?_
  rcases runAll_ok hE hW N ops.toList ops.toList 0 ⟨G, []⟩ [] t s k rfl with h | h
  · exact absurd h hr
  · have := h m w a (rd.map m.blk) n (QO E G N k ((runAll E N ops.toList ops.toList ⟨G, []⟩).f way [] t s k) m s w) hF (fun tm' s' m' w' a' he hF' hG => ⟨tm', s', m', hF', hG, he⟩)
    rw [Array.toArray_toList, Array.length_toList, ← List.range_eq_range'] at this
    exact this

/-! ### A new loop's record -/
theorem new_nx {E : Env} (_hE : EnvOk E) (s : St) (o : HO) : (s.new o).2.nx = s.nx + 1 ∧ (s.new o).2.df = s.df ∧ (s.new o).1 = s.nx := ⟨rfl, rfl, rfl⟩
theorem newLoop_ok {E : Env} (_hE : EnvOk E) {G N : Nat} {tm : Tm} {s : St} {m : Ren} {a : Act} {w : World} {fn : FuncId} {ps : Array Tmp} {assign body : Code} {d : Nat} (hR : Rel m s w.heap) (henv : EnvRel ⟨G, []⟩ N [] tm m s.nx a) (hd : d < s.nx) :
    ∃ w' m', (newObj (.loop { state := .ready, pending := none, fn := fn, tmps := a.tmps, params := ps, assign := assign, body := body, defers := m.blk d })).run E.P w = .ok (m'.blk s.nx) w' ∧
      Rel m' (newLoop s tm N G ps assign body d).2 w'.heap ∧ Grow m s w m' (newLoop s tm N G ps assign body d).2 w' := by
  let L : HLoop := { state := .ready, pending := none, tmps := tm, ntmps := N, mask := G, params := ps, assign := assign, body := body, defers := d }
  let O : Loop := { state := .ready, pending := none, fn := fn, tmps := a.tmps, params := ps, assign := assign, body := body, defers := m.blk d }
  have hag := m.add_agree s.nx w.heap.size 0 0
  have hrel : (HO.lop L).rel (m.add s.nx w.heap.size 0 0) (w.alloc (.loop O)).heap s.nx := by
    refine ⟨O, ?_, rfl, rfl, rfl, rfl, rfl, (hag.blk d hd).symm, henv.size, fun t ht => ?_⟩
    · show (w.heap.push _)[(m.add s.nx w.heap.size 0 0).blk s.nx]? = _
      rw [Ren.add_blk, Array.getElem?_push_size]
    · rw [val_agree hag _ (henv.twf.gets t)]; exact henv.glb t ht
  obtain ⟨h1, h2⟩ := rel_new (o := .lop L) (c := 0) (w' := w.alloc (.loop O)) hR rfl rfl rfl rfl ⟨henv.twf.mono (Nat.le_succ _), Nat.lt_succ_of_lt hd⟩ (fun g p h => by cases h) hrel
  exact ⟨_, _, by rw [run_newObj, Ren.add_blk]; rfl, h1, h2⟩
theorem newDfr_ok {E : Env} (_hE : EnvOk E) {s : St} {m : Ren} {w : World} (hR : Rel m s w.heap) :
    ∃ w' m', (newObj (.deferred (some []))).run E.P w = .ok (m'.blk s.nx) w' ∧ Rel m' (s.new .dfr).2 w'.heap ∧ Grow m s w m' (s.new .dfr).2 w' := by
  have hrel : (HO.dfr).rel (m.add s.nx w.heap.size 0 0) (w.alloc (.deferred (some []))).heap s.nx := by
    show (w.heap.push _)[(m.add s.nx w.heap.size 0 0).blk s.nx]? = _
    rw [Ren.add_blk, Array.getElem?_push_size]
  obtain ⟨h1, h2⟩ := rel_new (o := .dfr) (c := 0) (w' := w.alloc (.deferred (some []))) hR rfl rfl rfl rfl trivial (fun g p h => by cases h) hrel
  exact ⟨_, _, by rw [run_newObj, Ren.add_blk]; rfl, h1, h2⟩

theorem getLoop_run {E : Env} (hE : EnvOk E) {m : Ren} {s : St} {w : World} (hR : Rel m s w.heap) {l : Nat} {L : HLoop} (h : s.obj l = .lop L) : ∃ r, w.heap[m.blk l]? = some (.loop r) ∧ LoopRel m L r ∧ (Instr.getLoop (m.blk l)).run E.P w = .ok r w ∧ s.hp.get l = some (.lop L) := by
  have hb := obj_get hE h trivial
  obtain ⟨r, h1, h2⟩ := hR.obj l _ hb
  refine ⟨r, h1, h2, ?_, hb⟩
  have hg : (getObj (m.blk l)).run E.P w = .ok (.loop r) w := by simp [getObj, Sem.run, h1]
  unfold Instr.getLoop
  simp only [Sem.run_bind, hg, Result.andThen_ok, Sem.run_pure]
/-- a record turned -/
theorem setLoop_ok {E : Env} (hE : EnvOk E) {m : Ren} {s : St} {w : World} (hR : Rel m s w.heap) {l : Nat} {L L' : HLoop} {r r' : Loop} (hb : s.hp.get l = some (.lop L)) (hr : w.heap[m.blk l]? = some (.loop r)) (hL : LoopRel m L' r') (ht : L'.tmps = L.tmps) (hd : L'.defers = L.defers) :
    (setObj (m.blk l) (.loop r')).run E.P w = .ok () { w with heap := w.heap.setIfInBounds (m.blk l) (.loop r') } ∧ Rel m (setL s l L') (w.heap.setIfInBounds (m.blk l) (.loop r')) ∧
      Grow m s w m (setL s l L') { w with heap := w.heap.setIfInBounds (m.blk l) (.loop r') } := by
  have hwf := (hR.lt l _ hb).2
  have hlt : m.blk l < w.heap.size := (Array.getElem?_eq_some_iff.1 hr).1
  refine ⟨run_setObj_other hE hr (by intro c e f h; cases h), setO_ok hE (o' := .lop L') hR hb trivial rfl rfl ?_ ?_⟩
  · exact ⟨ht ▸ hwf.1, hd ▸ hwf.2⟩
  · exact ⟨r', by rw [Array.getElem?_setIfInBounds, if_pos rfl, if_pos hlt], hL⟩
theorem setL_eq {E : Env} (_hE : EnvOk E) (s : St) (l : Nat) (L : HLoop) : (setL s l L).nx = s.nx ∧ (setL s l L).df = s.df := by cases s; exact ⟨rfl, rfl⟩

/-- behind a range -/
theorem afterLoop_ok {E : Env} (hE : EnvOk E) {G N : Nat} {rd : Option Nat} {l : Nat} {tm : Tm} {df : List Nat} {k : Tm → St → Out} {s s' : St} {v : AV} {m m' : Ren} {a : Act} {w w' : World} {n : Nat}
    (hne : afterLoop l tm df k (.ok v s') ≠ .fail) (hR : Rel m' s' w'.heap) (hf : FactsOk E m'.ρ) (henv : EnvRel ⟨G, []⟩ N [] tm m' s'.nx a) (hdf : a.defers = df.map (markD m')) (hdw : ∀ d ∈ df, d < s'.nx) (hG : Grow m s w m' s' w') :
    ∃ jump w₄, (Instr.endLoop (m'.blk l)).run E.P w' = .ok jump w₄ ∧ (match jump with
       | none => QO E G N k (afterLoop l tm df k (.ok v s')) m s w .normal a w₄
       | some c => c.wpIn (FW rd) n E.P (QO E G N k (afterLoop l tm df k (.ok v s')) m s w) a w₄) := by
  have e : afterLoop l tm df k (.ok v s') = match s'.obj l with
    | .lop L => afterL l L tm s' df k
    | _ => .fail := rfl
  rw [e] at hne ⊢
  cases ho : s'.obj l with
  | lop L =>
    rw [ho] at hne
    simp only at hne ⊢
    unfold afterL at hne ⊢
    cases hb : busyL L.state with
    | true => rw [hb] at hne; exact absurd rfl hne
    | false =>
      rw [hb] at hne
      simp only [cond_false] at hne ⊢
      obtain ⟨r, hr, hL, hg, hhp⟩ := getLoop_run hE hR ho
      have hst : (r.state == LoopState.busy) = false := by
        rw [hL.state]
        revert hb
        cases L.state <;> intro hb <;> first | rfl | cases hb
      obtain ⟨hset, hR2, hG2⟩ := setLoop_ok hE hR (L' := { L with state := .exhausted }) (r' := { r with state := .exhausted }) hhp hr
        ⟨rfl, hL.pending, hL.params, hL.assign, hL.body, hL.defers, hL.size, hL.tmps⟩ rfl rfl
      refine ⟨r.pending, { w' with heap := w'.heap.setIfInBounds (m'.blk l) (.loop { r with state := .exhausted }) }, ?_, ?_⟩
      · unfold Instr.endLoop
        simp only [Sem.run_bind, hg, Result.andThen_ok, hst, Bool.false_eq_true, if_false, Sem.run_pure, hset]
      · obtain ⟨e1, e2⟩ := setL_eq hE s' l { L with state := .exhausted }
        have hF : Fr E ⟨G, []⟩ N [] tm ((setL s' l { L with state := .exhausted }).withDf df) m' a { w' with heap := w'.heap.setIfInBounds (m'.blk l) (.loop { r with state := .exhausted }) } := by
          refine ⟨rel_df hE hR2 _, hf, ?_, ?_, ?_⟩ <;> rw [withDf_eq hE]
          · show EnvRel _ _ _ _ _ (setL s' l { L with state := .exhausted }).nx _
            rw [e1]; exact henv
          · exact hdf
          · intro d hd
            show d < (setL s' l { L with state := .exhausted }).nx
            rw [e1]; exact hdw d hd
        have hG3 := grow_df hE (hG.trans hG2) df
        revert hF hG3 hne
        generalize (setL s' l { L with state := .exhausted }).withDf df = s2
        generalize ({ w' with heap := w'.heap.setIfInBounds (m'.blk l) (.loop { r with state := .exhausted }) } : World) = w2
        intro hne hF hG3
        rw [hL.pending]
        cases hp : L.pending with
        | none => rw [hp] at hne; exact ⟨_, _, m', hF, hG3, rfl⟩
        | some c =>
          rw [hp] at hne
          simp only at hne ⊢
          unfold jumpCode at hne ⊢
          cases c with
          | ret => exact wpIn_ret ⟨_, _, m', hF, hG3, rfl⟩
          | exit id => exact wpIn_exit ⟨_, _, m', hF, hG3, rfl⟩
          | goto t => exact wpIn_goto ⟨_, _, m', hF, hG3, rfl⟩
          | _ => exact absurd rfl hne
  | _ => rw [ho] at hne; exact absurd rfl hne
theorem runOk_range {E : Env} (hE : EnvOk E) {way : Way} (hW : WayOk E way) (G N : Nat) (rd : Option Nat) (f : Operand) (ps : Array Tmp) (assign body : Code) (hok : okO ⟨G, []⟩ f = true) :
    RunOk E G N rd (.rangeFunc f ps assign body) fun t s k => rangeF E G N rd ((ev ⟨G, []⟩ f).f [] t) ps assign body way t s k := by
  intro t s k hr m w a n hF hrd
  simp only at hr ⊢
  have harg := hF.env.args
  have hfv : a.eval f = ((ev ⟨G, []⟩ f).f [] t).val m := harg.2.val f hok
  have hfw : ((ev ⟨G, []⟩ f).f [] t).wf s.nx := harg.1.wf f hok
  revert hr hfv hfw
  generalize (ev ⟨G, []⟩ f).f [] t = x
  intro hr hfv hfw
  unfold rangeF at hr ⊢
  cases x with
  | fn fk first captured =>
    cases fk with
    | func g =>
      simp only at hr ⊢
      cases hk : fnK E g with
      | body =>
        rw [hk] at hr
        simp only at hr ⊢
        -- the call
        have hfun : ∀ (args : List Value) (w : World), (Go.callFunc g args.toArray).run E.P w = .ok (.enter g args.toArray) w := by
          intro args w
          unfold fnK at hk
          cases hFg : E.F.get g with
          | none => rw [hFg] at hk; cases hk
          | some fn =>
            rw [hFg] at hk
            simp only at hk
            obtain ⟨hfn, hname⟩ := hE.F g fn hFg
            cases hbody : fn.body with
            | none => rw [hbody] at hk; simp only at hk; split at hk <;> cases hk
            | some b =>
              unfold Go.callFunc
              simp only [Sem.run_bind, run_program, Result.andThen_ok, hfn, hname, Bool.false_eq_true, if_false, hbody, Option.isNone_some, Sem.run_pure]
        -- from the record on
        have go : ∀ (m1 : Ren) (s1 : St) (w1 : World) (a' : Act) (l : Nat) (df : List Nat), rangeGo way l g first captured t s1 df k ≠ .fail → a'.tmps = a.tmps → Rel m1 s1 w1.heap → Grow m s w m1 s1 w1 → l < s1.nx →
            a'.defers = df.map (markD m1) → (∀ d ∈ df, d < s1.nx) →
            ∃ (d : Deferred) (w₁' : World) (f' : FuncId) (args : Array Value) (w₂ : World), (resolve a.eval (rangeCall f (m1.blk l)) 0).run E.P w1 = .ok d w₁' ∧ (invoke d.target d.args).run E.P w₁' = .ok (.enter f' args) w₂ ∧
              CallsIn (FW (rd.map m.blk)) (n - 1) E.P f' args w₂ (rangePost (FW (rd.map m.blk)) n E.P (m1.blk l) (QO E G N k (rangeGo way l g first captured t s1 df k) m s w) a') := by
          intro m1 s1 w1 a' l df hne hat hR1 hG1 hl hdf hdw
          have hv1 : a.eval f = .func (.func g) (valL m1 first).toArray (valL m1 captured).toArray := by
            rw [hfv]; simp only [AV.val]; rw [← valL_agree hG1.agree first hfw.1, ← valL_agree hG1.agree captured hfw.2]
          refine ⟨{ target := .fn (.func g) (valL m1 captured).toArray, args := (valL m1 first).toArray ++ #[.func (.yield (m1.blk l)) #[] #[]] }, w1, g, (valL m1 (appL (appL first [.oth (.yld l)]) captured)).toArray, w1, ?_, ?_, ?_⟩
          · unfold resolve
            simp only [rangeCall, hv1]
            rw [show Array.map a.eval #[Operand.const (Value.func (Fn.yield (m1.blk l)) #[] #[])] = #[Value.func (Fn.yield (m1.blk l)) #[] #[]] from by simp [Act.eval]]
            rfl
          · have : (invoke (.fn (.func g) (valL m1 captured).toArray) ((valL m1 first).toArray ++ #[.func (.yield (m1.blk l)) #[] #[]]) : Sem Next) = Go.callFunc g (valL m1 (appL (appL first [.oth (.yld l)]) captured)).toArray := by
              rw [valL_app hE, valL_app hE]; rfl
            rw [this]
            exact hfun _ _
          · have hne' : afterLoop l t df k (way.call g (appL (appL first [.oth (.yld l)]) captured) s1) ≠ .fail := hne
            show CallsIn _ _ _ _ _ _ (rangePost _ _ _ _ (QO E G N k (afterLoop l t df k (way.call g (appL (appL first [.oth (.yld l)]) captured) s1)) m s w) a')
            cases hc : way.call g (appL (appL first [.oth (.yld l)]) captured) s1 with
            | fail => rw [hc] at hne'; exact absurd rfl hne'
            | ok v s' =>
              rw [hc] at hne'
              have hfr : wfL s1.nx (appL (appL first [.oth (.yld l)]) captured) := wfL_app hE (wfL_app hE (wfL_mono hG1.nx _ hfw.1) ⟨hl, trivial⟩) (wfL_mono hG1.nx _ hfw.2)
              refine callsIn_FW ((hW.call g _ s1 v s' hc m1 w1 hR1 (by rw [hG1.agree.ρ]; exact hF.facts) hfr (n - 1)).mono ?_)
              rintro e w' ⟨m', rfl, hR', hG', hwf⟩
              have hGG := hG1.trans hG'
              have henv : EnvRel ⟨G, []⟩ N [] t m' s'.nx a' := by
                have := hF.env.grow hGG.agree hGG.nx
                exact ⟨by rw [hat]; exact this.size, fun x hx => by rw [hat]; exact this.glb x hx, this.twf, fun i d v hd => (by cases hd), rfl, trivial⟩
              have key := afterLoop_ok hE (rd := rd.map m.blk) (n := n) (k := k) (v := v) hne' hR' (by rw [hGG.agree.ρ]; exact hF.facts) henv (by rw [hdf, marks_agree hG'.agree _ hdw]) (fun d hd => Nat.lt_of_lt_of_le (hdw d hd) hG'.nx) hGG
              rw [hG'.agree.blk l hl] at key
              exact key
        refine wpIn_rangeFunc fun fn _ => ?_
        cases rd with
        | none =>
          simp only at hr ⊢
          obtain ⟨wd, md, hd1, hd2, hd3⟩ := newDfr_ok hE hF.rel
          have henv1 := hF.env.grow hd3.agree hd3.nx
          obtain ⟨wl, ml, hl1, hl2, hl3⟩ := newLoop_ok hE (fn := fn) (ps := ps) (assign := assign) (body := body) (d := s.nx) (G := G) (N := N) hd2 henv1 (Nat.lt_succ_self _)
          have hGG := hd3.trans hl3
          have eblk : ml.blk s.nx = md.blk s.nx := hl3.agree.blk s.nx (Nat.lt_succ_self _)
          obtain ⟨dd, w₁', f', args, w₂, h1, h2, h3⟩ := go ml (newLoop (s.new .dfr).2 t N G ps assign body s.nx).2 wl { a with defers := [{ target := .collected (md.blk s.nx), args := #[] }] ++ a.defers } (s.nx + 1) (s.nx :: s.df) hr rfl hl2 hGG (Nat.lt_succ_self _)
            (by
              show { target := .collected (md.blk s.nx), args := #[] } :: a.defers = markD ml s.nx :: s.df.map (markD ml)
              rw [hF.df, marks_agree hGG.agree _ hF.dfwf]
              unfold markD
              rw [eblk])
            (by
              intro d hd
              rcases List.mem_cons.1 hd with rfl | hd
              · exact Nat.lt_succ_of_lt (Nat.lt_succ_self _)
              · exact Nat.lt_succ_of_lt (Nat.lt_succ_of_lt (hF.dfwf d hd)))
          refine ⟨ml.blk (s.nx + 1), [{ target := .collected (md.blk s.nx), args := #[] }], wl, dd, w₁', f', args, w₂, ?_, h1, fun _ _ => trivial, h2, FW_depth hE, h3⟩
          show (Instr.enterLoop fn a.tmps ps assign body none).run E.P w = _
          unfold Instr.enterLoop
          simp only [Sem.run_bind, hd1, Result.andThen_ok, Sem.run_pure]
          have : (s.new .dfr).2.nx = s.nx + 1 := rfl
          rw [this] at hl1
          simp only [hl1, Result.andThen_ok]
        | some l0 =>
          simp only at hr ⊢
          cases ho : s.obj l0 with
          | lop L0 =>
            rw [ho] at hr
            simp only at hr ⊢
            obtain ⟨r0, hr0, hL0, hg0, hb0⟩ := getLoop_run hE hF.rel ho
            have hdw := (hF.rel.lt l0 _ hb0).2.2
            obtain ⟨wl, ml, hl1, hl2, hl3⟩ := newLoop_ok hE (fn := fn) (ps := ps) (assign := assign) (body := body) (d := L0.defers) (G := G) (N := N) hF.rel hF.env hdw
            obtain ⟨dd, w₁', f', args, w₂, h1, h2, h3⟩ := go ml (newLoop s t N G ps assign body L0.defers).2 wl { a with defers := [] ++ a.defers } s.nx s.df hr rfl hl2 hl3 (Nat.lt_succ_self _)
              (by show a.defers = _; rw [hF.df, marks_agree hl3.agree _ hF.dfwf]) (fun d hd => Nat.lt_succ_of_lt (hF.dfwf d hd))
            refine ⟨ml.blk s.nx, [], wl, dd, w₁', f', args, w₂, ?_, h1, fun _ _ => trivial, h2, FW_depth hE, h3⟩
            show (Instr.enterLoop fn a.tmps ps assign body (some (m.blk l0))).run E.P w = _
            unfold Instr.enterLoop
            simp only [Sem.run_bind, hg0, Result.andThen_ok, Sem.run_pure, hL0.defers]
            rw [hl1]
            rfl
          | _ => rw [ho] at hr; exact absurd rfl hr
      | _ => rw [hk] at hr; exact absurd rfl hr
    | _ => exact absurd rfl hr
  | _ => exact absurd rfl hr
end Go.Vx
