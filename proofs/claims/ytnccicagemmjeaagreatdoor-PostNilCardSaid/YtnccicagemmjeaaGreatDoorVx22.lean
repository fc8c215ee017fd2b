/- The abstract executor: calls; every operation as a step of a walk. -/
import Derived.Test.YtnccicagemmjeaaGreatDoorVx21
namespace Go.Vx

/-- the wide fence, in a round or not -/
def FW (ro : Option Nat) : Fence := { fn := fun _ => True, depth := none, alive := false, round := ro }
theorem callsIn_FW {ro : Option Nat} {n : Nat} {P : Program} {f : FuncId} {args : Array Value} {w : World} {R : Ending → World → Prop} (h : CallsIn Fence.wide n P f args w R) : CallsIn (FW ro) n P f args w R := h
theorem roundIn_FW {ro : Option Nat} {n : Nat} {P : Program} {l : Nat} {f : FuncId} {tmps : Array Value} {x y : Code} {w : World} {R : Ending → World → Prop} (h : RoundIn Fence.wide n P l f tmps x y w R) : RoundIn (FW ro) n P l f tmps x y w R := h
/-- what a call comes to -/
def Post (m : Ren) (s : St) (w : World) (v : AV) (s' : St) : Ending → World → Prop := fun e w' => ∃ m', e = .returned (v.val m') ∧ Rel m' s' w'.heap ∧ Grow m s w m' s' w' ∧ v.wf s'.nx
structure WayOk (E : Env) (W : Way) : Prop where
  call : ∀ f args s v s', W.call f args s = .ok v s' → ∀ m w, Rel m s w.heap → FactsOk E m.ρ → wfL s.nx args → ∀ n, CallsIn Fence.wide n E.P f (valL m args).toArray w (Post m s w v s')
  rnd : ∀ l args s v s', W.rnd l args s = .ok v s' → ∀ m w, Rel m s w.heap → FactsOk E m.ρ → wfL s.nx args → ∀ n, ∃ r : Loop, w.heap[m.blk l]? = some (.loop r) ∧ args.length = r.params.size ∧
    RoundIn Fence.wide n E.P (m.blk l) r.fn ((r.params.zip (valL m args).toArray).foldl (fun tmps (t, a) => tmps.setIfInBounds t a) r.tmps) r.assign r.body w (Post m s w v s')
/-- a step of a walk -/
def OpWp (E : Env) (c : Cx) (o : Op) : Prop := ∀ (oper : Oper), oper.op = o → okOs c (opL o) = true → ∀ (way : Way), WayOk E way → ∀ (l : List AV) (tm : Tm) (s : St) (k : AV → St → Out),
  (hop E c o).f way l tm s k = .fail ∨ ∃ v s', (∀ k, (hop E c o).f way l tm s k = k v s') ∧
    ∀ m w (a : Act) (ro : Option Nat) (n : Nat) (next : Act → World → Prop) (Q : Exit → Act → World → Prop), Rel m s w.heap → FactsOk E m.ρ → ArgsWf c l tm s.nx → ArgsVal c l tm m a.eval →
      (∀ m' w', Rel m' s' w'.heap → Grow m s w m' s' w' → v.wf s'.nx → s'.df = s.df → next (a.put oper.dst (v.val m')) w') → oper.wpIn (FW ro) n E.P a w next Q
theorem wp_of_does {E : Env} (_hE : EnvOk E) (c : Cx) {o : Op} (hnd : ∀ c, o ≠ .defer c) (h : OpDoes E c o) : OpWp E c o := by
  intro oper ho hok way hW l tm s k
  rcases h oper ho hok way l tm s k with hf | ⟨v, s', hk, H⟩
  · exact .inl hf
  · refine .inr ⟨v, s', hk, fun m w a ro n next Q hR hf hw ha hnext => ?_⟩
    obtain ⟨m', w', r, hrun, hr, hR', hG, hwf, hdf'⟩ := H m w a.eval hR hf hw ha
    refine ⟨fun _ _ => trivial, ?_⟩
    rw [Oper.semAt_eq _ _ _ (by rw [ho]; exact hnd), hrun]
    rcases hr with rfl | ⟨rfl, rfl⟩
    · exact hnext m' w' hR' hG hwf hdf'
    · exact hnext m' w' hR' hG hwf hdf'
theorem FW_depth {E : Env} (_hE : EnvOk E) {ro : Option Nat} {n : Nat} : (FW ro).depth.isSome = true → 1 ≤ n := fun h => by cases h
/-- what a call's step asks -/
def CallStep (E : Env) (m : Ren) (s : St) (w : World) (sem : Sem Next) (v : AV) (s' : St) : Prop := ∀ (oper : Oper) (a : Act) (ro : Option Nat) (n : Nat) (next : Act → World → Prop) (Q : Exit → Act → World → Prop),
  (∀ m' w', Rel m' s' w'.heap → Grow m s w m' s' w' → v.wf s'.nx → s'.df = s.df → next (a.put oper.dst (v.val m')) w') → oper.uponIn (FW ro) n E.P a next Q (sem.run E.P w)
theorem afterC_eq {E : Env} (_hE : EnvOk E) (s : St) (r : CR) (k : AV → St → Out) : afterC s r k = match r with | .fail => .fail | .ok v s' => k v (s'.withDf s.df) := by
  cases r with
  | fail => rfl
  | ok v s' => cases s'; rfl
theorem withDf_eq {E : Env} (_hE : EnvOk E) (s : St) (df : List Nat) : s.withDf df = ⟨s.hp, s.nx, s.gr, df⟩ := by cases s; rfl
theorem grow_df {E : Env} (hE : EnvOk E) {m m' : Ren} {s s' : St} {w w' : World} (h : Grow m s w m' s' w') (df : List Nat) : Grow m s w m' (s'.withDf df) w' := by
  rw [withDf_eq hE]; exact ⟨h.agree, h.nx, h.size, h.frame, h.img, h.os, h.tape, h.output⟩
theorem rel_df {E : Env} (hE : EnvOk E) {m : Ren} {s : St} {h : Array Obj} (hR : Rel m s h) (df : List Nat) : Rel m (s.withDf df) h := by rw [withDf_eq hE]; exact hR.same rfl rfl rfl
theorem callFn_ok {E : Env} (hE : EnvOk E) {f : FuncId} {way : Way} (hW : WayOk E way) (args : List AV) (s : St) (k : AV → St → Out) : callFn E f way args s k = .fail ∨ ∃ v s', (∀ k, callFn E f way args s k = k v s') ∧
    ∀ m w, Rel m s w.heap → FactsOk E m.ρ → wfL s.nx args → CallStep E m s w (Go.callFunc f (valL m args).toArray) v s' := by
  unfold callFn
  unfold fnK
  cases hF : E.F.get f with
  | none => exact .inl rfl
  | some fn =>
    obtain ⟨hfn, hname⟩ := hE.F f fn hF
    simp only
    cases hbody : fn.body with
    | some body =>
      simp only
      have hrun : ∀ (args : List Value) (w : World), (Go.callFunc f args.toArray).run E.P w = .ok (.enter f args.toArray) w := by
        intro args w
        unfold Go.callFunc
        simp only [Sem.run_bind, run_program, Result.andThen_ok, hfn, hname, Bool.false_eq_true, if_false, hbody, Option.isNone_some, Sem.run_pure]
      have plain : afterC s (way.call f args s) k = .fail ∨ ∃ v s', (∀ k, afterC s (way.call f args s) k = k v s') ∧
          ∀ m w, Rel m s w.heap → FactsOk E m.ρ → wfL s.nx args → CallStep E m s w (Go.callFunc f (valL m args).toArray) v s' := by
        simp only [afterC_eq hE]
        cases hr : way.call f args s with
        | fail => exact .inl rfl
        | ok v s' =>
          refine .inr ⟨v, s'.withDf s.df, fun k => rfl, fun m w hR hf hw oper a ro n next Q hnext => ?_⟩
          rw [hrun, Oper.uponIn_enter]
          refine ⟨FW_depth hE, callsIn_FW ((hW.call f args s v s' hr m w hR hf hw (n - 1)).mono ?_)⟩
          rintro e w' ⟨m', rfl, hR', hG, hwf⟩
          exact hnext m' w' (rel_df hE hR' _) (grow_df hE hG _) (by rw [withDf_eq hE]; exact hwf) (by rw [withDf_eq hE])
      cases hext : E.ext f with
      | none => exact plain
      | some x =>
        cases x with
        | mapsClone => exact plain
        | ret b =>
          simp only
          cases args with
          | cons v l => exact .inl rfl
          | nil =>
            refine .inr ⟨.bool b, s, fun k => rfl, fun m w hR hf hw oper a ro n next Q hnext => ?_⟩
            rw [show (valL m []).toArray = ([] : List Value).toArray from rfl, hrun, Oper.uponIn_enter]
            refine ⟨FW_depth hE, callsIn_FW ((hE.ret f b hext m s w hR (n - 1)).mono ?_)⟩
            rintro e w' ⟨rfl, hR', hG⟩
            exact hnext m w' hR' hG trivial rfl
    | none =>
      simp only
      cases hext : E.ext f with
      | none => exact .inl rfl
      | some x =>
        cases x with
        | ret b => exact .inl rfl
        | mapsClone =>
        simp only
        have hO : ∀ k : AV → St → Out, (Option.rec (motive := fun _ => Out) .fail (fun p => Prod.rec (motive := fun _ => Out) k p) (cloneA args s)) = match cloneA args s with | none => .fail | some p => k p.1 p.2 := fun k => by
          cases cloneA args s <;> rfl
        simp only [hO]
        cases hcl : cloneA args s with
        | none => exact .inl rfl
        | some p =>
          refine .inr ⟨p.1, p.2, fun k => rfl, fun m w hR hf hw oper a ro n next Q hnext => ?_⟩
          unfold cloneA at hcl
          split at hcl
          · rename_i t r
            split at hcl
            · rename_i es clock hb
              cases hcl
              have hb := obj_get hE hb trivial
              have hh : w.heap[m.blk r]? = some (.map (es.map (ME.ent m)).toArray clock) := hR.obj r _ hb
              have hwf := (hR.lt r _ hb).2
              have hag := m.add_agree s.nx w.heap.size 0 0
              have hrun : (Go.callFunc f (valL m [.ifc t (.mp r)]).toArray).run E.P w = .ok (.value (.iface t (.map (some w.heap.size)))) (w.alloc (.map (es.map (ME.ent m)).toArray clock)) := by
                rw [hE.ext f fn hext hF hbody]
                have hc : Extern.MapsClone.clone (valL m [.ifc t (.mp r)]).toArray = (do
                    let .map entries clock ← getObj (m.blk r) | stuck "maps.clone: a map expected"
                    pure (.iface t (.map (some (← newObj (.map entries clock)))))) := rfl
                rw [hc]
                simp only [Sem.run_bind, MapKept.run_getObj_map hh, Result.andThen_ok, run_newObj, Sem.run_pure]
                rfl
              rw [hrun, Oper.uponIn_value]
              have hrel : (HO.mapo es clock).rel (m.add s.nx w.heap.size 0 0) (w.alloc (.map (es.map (ME.ent m)).toArray clock)).heap s.nx := by
                show (w.heap.push _)[(m.add s.nx w.heap.size 0 0).blk s.nx]? = _
                rw [Ren.add_blk, Array.getElem?_push_size]
                have : es.map (ME.ent (m.add s.nx w.heap.size 0 0)) = es.map (ME.ent m) := List.map_congr_left fun e he => by
                  unfold ME.ent; rw [val_agree hag _ (hwf e he).1, val_agree hag _ (hwf e he).2]
                rw [this]
              obtain ⟨h1, h2⟩ := rel_new (o := .mapo es clock) (c := 0) (w' := w.alloc (.map (es.map (ME.ent m)).toArray clock)) hR rfl rfl rfl rfl (HO.wf_mono (Nat.le_succ _) (.mapo es clock) hwf) (fun g p h => by cases h) hrel
              have := hnext _ _ h1 h2 (show (AV.ifc t (.mp s.nx)).wf (s.nx + 1) from Nat.lt_succ_self _) rfl
              simp only [AV.val, Ren.add_blk] at this
              exact this
            · cases hcl
          · cases hcl
end Go.Vx
