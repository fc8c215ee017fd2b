/- The abstract executor: calls of values; every operation. -/
import Derived.Test.YtnccicagemmjeaaGreatDoorVx22
namespace Go.Vx
theorem valL_app {E : Env} (_hE : EnvOk E) (m : Ren) (a b : List AV) : (valL m (appL a b)).toArray = (valL m a).toArray ++ (valL m b).toArray := by
  rw [appL_eq, valL_eq, valL_eq, valL_eq]; simp
theorem wfL_app {E : Env} (_hE : EnvOk E) {n : Nat} {a b : List AV} (ha : wfL n a) (hb : wfL n b) : wfL n (appL a b) := by
  rw [appL_eq, wfL_iff]
  rw [wfL_iff] at ha hb
  intro v hv
  exact (List.mem_append.1 hv).elim (ha v) (hb v)
theorem callV_ok {E : Env} (hE : EnvOk E) {x : AV} {way : Way} (hW : WayOk E way) (args : List AV) (s : St) (k : AV → St → Out) : callV E x way args s k = .fail ∨ ∃ v s', (∀ k, callV E x way args s k = k v s') ∧
    ∀ m w, Rel m s w.heap → FactsOk E m.ρ → x.wf s.nx → wfL s.nx args → CallStep E m s w (do let d ← Deferred.ofValue (x.val m) (valL m args).toArray; invoke d.target d.args) v s' := by
  unfold callV
  split
  · rename_i g first captured
    rcases callFn_ok hE (f := g) hW (appL (appL first args) captured) s k with h | ⟨v, s', hk, H⟩
    · exact .inl h
    · refine .inr ⟨v, s', hk, fun m w hR hf hx hw => ?_⟩
      have e : (do let d ← Deferred.ofValue (AV.val m (.fn (.func g) first captured)) (valL m args).toArray; invoke d.target d.args : Sem Next) = Go.callFunc g (valL m (appL (appL first args) captured)).toArray := by
        rw [valL_app hE, valL_app hE]; rfl
      rw [e]
      exact H m w hR hf (wfL_app hE (wfL_app hE hx.1 hw) hx.2)
  · rename_i l
    simp only [afterC_eq hE]
    cases hr : way.rnd l args s with
    | fail => exact .inl rfl
    | ok v s' =>
      refine .inr ⟨v, s'.withDf s.df, fun k => rfl, fun m w hR hf hx hw oper a ro n next Q hnext => ?_⟩
      obtain ⟨r, hl, hsz, hround⟩ := hW.rnd l args s v s' hr m w hR hf hw (n - 1)
      have e : (do let d ← Deferred.ofValue (AV.val m (.oth (.yld l))) (valL m args).toArray; invoke d.target d.args : Sem Next) = Instr.yield (m.blk l) (#[] ++ (valL m args).toArray) := rfl
      have hrun : (Instr.yield (m.blk l) (#[] ++ (valL m args).toArray)).run E.P w = .ok (.round (m.blk l) r.fn ((r.params.zip (valL m args).toArray).foldl (fun tmps (t, a) => tmps.setIfInBounds t a) r.tmps) r.assign r.body) w := by
        have hg : (getObj (m.blk l)).run E.P w = .ok (.loop r) w := by simp [getObj, Sem.run, hl]
        unfold Instr.yield Instr.getLoop
        simp only [Sem.run_bind, hg, Result.andThen_ok, Sem.run_pure, Array.empty_append]
        rw [if_neg (by simp [valL_len, hsz])]
        rfl
      rw [e, hrun, Oper.uponIn_round]
      refine ⟨FW_depth hE, roundIn_FW (hround.mono ?_)⟩
      rintro e' w' ⟨m', rfl, hR', hG, hwf⟩
      exact hnext m' w' (rel_df hE hR' _) (grow_df hE hG _) (by rw [withDf_eq hE]; exact hwf) (by rw [withDf_eq hE])
  · exact .inl rfl
theorem wp_call_value {E : Env} (hE : EnvOk E) (c : Cx) (cl : Call) (f : Operand) (hc : cl.callee = .value f) : OpWp E c (.call cl) := by
  intro oper ho hok way hW l tm s k
  have hopL : opL (.call cl) = f :: cl.args.toList := by show (match cl.callee with | .value f => f :: cl.args.toList | _ => cl.args.toList) = _; rw [hc]
  rw [hopL] at hok
  obtain ⟨hf1, hargs1⟩ := (okOs_cons c f _).1 hok
  have hexec : ∀ (a : Act) (w : World) (ro : Option Nat), (oper.semAt ro a.eval).run E.P w = (do let d ← Deferred.ofValue (a.eval f) (cl.args.map a.eval); invoke d.target d.args : Sem Next).run E.P w := by
    intro a w ro
    rw [Oper.semAt_eq _ _ _ (by rw [ho]; intro c' h; cases h)]
    unfold execOp; rw [ho]
    simp only [resolve, hc]
  have fin : ∀ (x : AV) v s', (∀ m w, Rel m s w.heap → FactsOk E m.ρ → x.wf s.nx → wfL s.nx ((evL c cl.args.toList).f l tm) → CallStep E m s w (do let d ← Deferred.ofValue (x.val m) (valL m ((evL c cl.args.toList).f l tm)).toArray; invoke d.target d.args) v s') → (ev c f).f l tm = x →
      ∀ m w (a : Act) (ro : Option Nat) (n : Nat) (next : Act → World → Prop) (Q : Exit → Act → World → Prop), Rel m s w.heap → FactsOk E m.ρ → ArgsWf c l tm s.nx → ArgsVal c l tm m a.eval →
      (∀ m' w', Rel m' s' w'.heap → Grow m s w m' s' w' → v.wf s'.nx → s'.df = s.df → next (a.put oper.dst (v.val m')) w') → oper.wpIn (FW ro) n E.P a w next Q := by
    intro x v s' H hx m w a ro n next Q hR hf hw ha hnext
    refine ⟨fun _ _ => trivial, ?_⟩
    rw [show (FW ro).round = ro from rfl, hexec, ha.val f hf1, hx, args_eq hE c ha cl hargs1]
    exact H m w hR hf (hx ▸ hw.wf f hf1) (evL_wf hw _ hargs1) oper a ro n next Q hnext
  by_cases hfu : ∃ g, f = .func g
  · obtain ⟨g, rfl⟩ := hfu
    have hh : hop E c (.call cl) = ⟨fun w l tm s k => callFn E g w ((evL c cl.args.toList).f l tm) s k⟩ := by
      show callOp E c cl = _; unfold callOp; rw [hc]
    rw [hh]
    rcases callFn_ok hE (f := g) hW ((evL c cl.args.toList).f l tm) s k with h | ⟨v, s', hk, H⟩
    · exact .inl h
    · refine .inr ⟨v, s', hk, fin (.fn (.func g) [] []) v s' (fun m w hR hf _ hw => ?_) rfl⟩
      have e : (do let d ← Deferred.ofValue (AV.val m (.fn (.func g) [] [])) (valL m ((evL c cl.args.toList).f l tm)).toArray; invoke d.target d.args : Sem Next) = Go.callFunc g (#[] ++ (valL m ((evL c cl.args.toList).f l tm)).toArray ++ #[]) := rfl
      rw [e, Array.empty_append, Array.append_empty]
      exact H m w hR hf hw
  · have hh : hop E c (.call cl) = ⟨fun w l tm s k => callV E ((ev c f).f l tm) w ((evL c cl.args.toList).f l tm) s k⟩ := by
      show callOp E c cl = _
      unfold callOp
      cases f with
      | func g => exact absurd ⟨g, rfl⟩ hfu
      | tmp t => rw [hc]
      | const v => rw [hc]
      | global g => rw [hc]
    rw [hh]
    rcases callV_ok hE (x := (ev c f).f l tm) hW ((evL c cl.args.toList).f l tm) s k with h | ⟨v, s', hk, H⟩
    · exact .inl h
    · exact .inr ⟨v, s', hk, fin _ v s' H rfl⟩
theorem wp_fail {E : Env} (_hE : EnvOk E) (c : Cx) {o : Op} (h : hop E c o = failO) : OpWp E c o := fun _ _ _ _ _ _ _ _ _ => .inl (by rw [h]; rfl)
/-- every operation -/
theorem op_wp {E : Env} (hE : EnvOk E) (c : Cx) (o : Op) : OpWp E c o := by
  cases hi : isE o with
  | false => exact wp_of_does hE c (by rintro cl rfl; cases hi) (opDoes_of_pure hE c (op_pure hE c o hi))
  | true =>
    cases o with
    | store t a x => exact wp_of_does hE c (by intro cl h; cases h) (does_store hE c t a x)
    | mapUpdate t a k x => exact wp_of_does hE c (by intro cl h; cases h) (does_mapUpdate hE c t a k x)
    | insert t a k x => exact wp_of_does hE c (by intro cl h; cases h) (does_insert hE c t a k x)
    | mapEntry t a k => exact wp_of_does hE c (by intro cl h; cases h) (does_mapEntry hE c t a k)
    | entryStore t a st x => exact wp_of_does hE c (by intro cl h; cases h) (does_entryStore hE c t a st x)
    | range t x => exact wp_of_does hE c (by intro cl h; cases h) (does_range hE c t x)
    | next x b => exact wp_of_does hE c (by intro cl h; cases h) (does_next hE c x b)
    | entry x => exact wp_of_does hE c (by intro cl h; cases h) (does_entry hE c x)
    | call cl =>
      cases hc : cl.callee with
      | value f => exact wp_call_value hE c cl f hc
      | invoke r n => exact wp_fail hE c (by show callOp E c cl = _; unfold callOp; rw [hc])
      | builtin b =>
        by_cases h1 : b = .append
        · subst h1; exact wp_of_does hE c (by intro cl h; cases h) (does_append hE c hc)
        · by_cases h2 : b = .clear
          · subst h2; exact wp_of_does hE c (by intro cl h; cases h) (does_clear hE c hc)
          · refine wp_fail hE c ?_
            show callOp E c cl = _
            unfold callOp
            rw [hc]
            simp only
            have hb : b ≠ .len ∧ b ≠ .cap ∧ b ≠ .max ∧ b ≠ .min := by
              unfold isE at hi
              simp only [hc] at hi
              refine ⟨?_, ?_, ?_, ?_⟩ <;> (rintro rfl; cases hi)
            unfold biA
            split <;> cases b <;> first | rfl | exact absurd rfl h1 | exact absurd rfl h2 | exact absurd rfl hb.1 | exact absurd rfl hb.2.1 | exact absurd rfl hb.2.2.1 | exact absurd rfl hb.2.2.2
    | _ => first | exact wp_fail hE c rfl | cases hi
end Go.Vx
