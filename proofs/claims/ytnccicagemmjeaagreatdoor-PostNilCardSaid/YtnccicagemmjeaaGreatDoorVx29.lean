/- The abstract executor: rounds; all code; all calls (regions that draw their order are asked for). -/
import Derived.Test.YtnccicagemmjeaaGreatDoorVx28
namespace Go.Vx

theorem setPs_ok {E : Env} (_hE : EnvOk E) {m : Ren} {n G N : Nat} : ∀ (ps : List Tmp) (vs : List AV) (t tm : Tm) (arr : Array Value), setPs ps vs N t = some tm → wfL n vs → EnvRel ⟨G, []⟩ N [] t m n { tmps := arr, defers := [] } →
    ps.length = vs.length ∧ EnvRel ⟨G, []⟩ N [] tm m n { tmps := (ps.zip (valL m vs)).foldl (fun tmps (t, a) => tmps.setIfInBounds t a) arr, defers := [] } := by
  intro ps
  induction ps with
  | nil =>
    intro vs t tm arr h hw he
    cases vs with
    | nil => cases h; exact ⟨rfl, he⟩
    | cons v vs => cases h
  | cons p ps ih =>
    intro vs t tm arr h hw he
    cases vs with
    | nil => cases h
    | cons v vs =>
      have h : cond (Nat.ble (Nat.succ p) N) (setPs ps vs N (t.set p v)) none = some tm := h
      cases hp : Nat.ble (Nat.succ p) N with
      | false => rw [hp] at h; cases h
      | true =>
        rw [hp] at h
        simp only [cond_true] at h
        have hp := Nat.le_of_ble_eq_true hp
        have he2 : EnvRel ⟨G, []⟩ N [] (t.set p v) m n { tmps := arr.setIfInBounds p (v.val m), defers := [] } := by
          refine ⟨by have := he.size; simpa using this, fun x hx => ?_, fun d u hd => ?_, fun i d v hd => (by cases hd), rfl, trivial⟩
          · simp only
            rw [getD_set _ _ _ _ (by have := he.size; simp only at this; omega)]
            unfold gets
            rw [get_set]
            by_cases e : x = p
            · rw [if_pos e, if_pos e]; rfl
            · rw [if_neg e, if_neg e]; exact he.glb x hx
          · rw [get_set] at hd
            split at hd
            · cases hd; exact hw.1
            · exact he.twf d u hd
        obtain ⟨h1, h2⟩ := ih vs _ _ _ h hw.2 he2
        exact ⟨by simp [h1], h2⟩
theorem roundEnd_ok {E : Env} (hE : EnvOk E) {l : Nat} {j : Option Code} {s s' : St} {v : AV} {m : Ren} {w : World} (h : roundEnd l j s = .ok v s') (hR : Rel m s w.heap) :
    ∃ w', (Instr.endRound (m.blk l) j).run E.P w = .ok (v.val m) w' ∧ Rel m s' w'.heap ∧ Grow m s w m s' w' ∧ v.wf s'.nx := by
  unfold roundEnd at h
  cases ho : s.obj l with
  | lop L =>
    rw [ho] at h
    obtain ⟨r, hr, hL, hg, hb⟩ := getLoop_run hE hR ho
    cases j with
    | none =>
      cases h
      obtain ⟨h1, h2, h3⟩ := setLoop_ok hE hR (L' := { L with state := .ready, pending := none }) (r' := { r with state := .ready, pending := none }) hb hr ⟨rfl, rfl, hL.params, hL.assign, hL.body, hL.defers, hL.size, hL.tmps⟩ rfl rfl
      refine ⟨_, ?_, h2, h3, trivial⟩
      unfold Instr.endRound
      simp only [Sem.run_bind, hg, Result.andThen_ok, Option.isNone_none, if_true, h1, Sem.run_pure]
      rfl
    | some c =>
      cases h
      obtain ⟨h1, h2, h3⟩ := setLoop_ok hE hR (L' := { L with state := .done, pending := some c }) (r' := { r with state := .done, pending := some c }) hb hr ⟨rfl, rfl, hL.params, hL.assign, hL.body, hL.defers, hL.size, hL.tmps⟩ rfl rfl
      refine ⟨_, ?_, h2, h3, trivial⟩
      unfold Instr.endRound
      simp only [Sem.run_bind, hg, Result.andThen_ok, Option.isNone_some, Bool.false_eq_true, if_false, h1, Sem.run_pure]
      rfl
  | _ => rw [ho] at h; cases h
theorem roundW_ok {E : Env} (hE : EnvOk E) {way : Way} (cc_ok : ∀ G N rd c, RunOk E G N rd c ((cc E G N rd c).f way)) (l : Nat) (args : List AV) (s : St) (v : AV) (s' : St) (h : roundW E way l args s = .ok v s') (m : Ren) (w : World)
    (hR : Rel m s w.heap) (hfa : FactsOk E m.ρ) (hw : wfL s.nx args) (n : Nat) : ∃ r : Loop, w.heap[m.blk l]? = some (.loop r) ∧ args.length = r.params.size ∧
    RoundIn Fence.wide n E.P (m.blk l) r.fn ((r.params.zip (valL m args).toArray).foldl (fun tmps (t, a) => tmps.setIfInBounds t a) r.tmps) r.assign r.body w (Post m s w v s') := by
  unfold roundW at h
  cases ho : s.obj l with
  | lop L =>
    rw [ho] at h
    simp only at h
    obtain ⟨r, hr, hL, hg, hb⟩ := getLoop_run hE hR ho
    have hlt := hR.lt l _ hb
    cases hsp : setPs L.params.toList args L.ntmps L.tmps with
    | none => rw [hsp] at h; cases h
    | some tm =>
      rw [hsp] at h
      simp only at h
      have henv0 : EnvRel ⟨L.mask, []⟩ L.ntmps [] L.tmps m s.nx { tmps := r.tmps, defers := [] } := ⟨hL.size, hL.tmps, hlt.2.1, fun i d v hd => (by cases hd), rfl, trivial⟩
      obtain ⟨hlen, henv⟩ := setPs_ok hE L.params.toList args L.tmps tm r.tmps hsp hw henv0
      have hz : (r.params.zip (valL m args).toArray).foldl (fun tmps (t, a) => tmps.setIfInBounds t a) r.tmps = (L.params.toList.zip (valL m args)).foldl (fun tmps (t, a) => tmps.setIfInBounds t a) r.tmps := by
        rw [← Array.foldl_toList, Array.toList_zip, hL.params]
      refine ⟨r, hr, by rw [hL.params]; simpa using hlen.symm, ?_⟩
      rw [hz]
      have hF : Fr E ⟨L.mask, []⟩ L.ntmps [] tm (s.withDf []) m { tmps := (L.params.toList.zip (valL m args)).foldl (fun tmps (t, a) => tmps.setIfInBounds t a) r.tmps, defers := [] } w :=
        ⟨rel_df hE hR _, hfa, by rw [withDf_eq hE]; exact henv, by rw [withDf_eq hE]; rfl, by rw [withDf_eq hE]; intro d hd; cases hd⟩
      have hl1 : ∀ l0, some l = some l0 → l0 < (s.withDf []).nx := by rintro l0 h; cases h; rw [withDf_eq hE]; exact hlt.1
      have hne : (cc E L.mask L.ntmps (some l) L.assign).f way tm (s.withDf []) .normal ≠ .fail := fun e => by rw [e] at h; cases h
      have hA := cc_ok L.mask L.ntmps (some l) L.assign tm (s.withDf []) .normal hne m w _ n hF hl1
      refine roundIn_of_wpIn trivial ?_
      rw [hL.assign, hL.body]
      refine wpIn_mono hA fun e a1 w1 hq => ?_
      obtain ⟨t1, s1, m1, hF1, hG1, hr1⟩ := hq
      have hblk : m1.blk l = m.blk l := hG1.agree.blk l (hl1 l rfl)
      cases e with
      | normal =>
        have hr1 : (cc E L.mask L.ntmps (some l) L.assign).f way tm (s.withDf []) .normal = .normal t1 s1 := hr1
        rw [hr1] at h
        unfold roundBody at h
        simp only at h
        cases ho1 : s1.obj l with
        | lop L1 =>
          rw [ho1] at h
          simp only at h
          cases hst : readyL L1.state with
          | false => rw [hst] at h; cases h
          | true =>
            rw [hst] at h
            simp only [cond_true] at h
            obtain ⟨r1, hr1', hL1, hg1, hb1⟩ := getLoop_run hE hF1.rel ho1
            obtain ⟨hset, hR2, hG2⟩ := setLoop_ok hE hF1.rel (L' := { L1 with state := .busy }) (r' := { r1 with state := .busy }) hb1 hr1' ⟨rfl, hL1.pending, hL1.params, hL1.assign, hL1.body, hL1.defers, hL1.size, hL1.tmps⟩ rfl rfl
            have hrs : r1.state = .ready := by
              rw [hL1.state]
              revert hst
              cases L1.state <;> intro hst <;> first | rfl | cases hst
            refine ⟨{ w1 with heap := w1.heap.setIfInBounds (m1.blk l) (.loop { r1 with state := .busy }) }, ?_, ?_⟩
            · rw [← hblk]
              unfold Instr.beginRound
              simp only [Sem.run_bind, hg1, Result.andThen_ok, hset, hrs]
              rfl
            · obtain ⟨e1, e2⟩ := setL_eq hE s1 l { L1 with state := .busy }
              have hF2 : Fr E ⟨L.mask, []⟩ L.ntmps [] t1 (setL s1 l { L1 with state := .busy }) m1 a1 { w1 with heap := w1.heap.setIfInBounds (m1.blk l) (.loop { r1 with state := .busy }) } :=
                ⟨hR2, hF1.facts, by rw [e1]; exact hF1.env, by rw [e2]; exact hF1.df, by rw [e1, e2]; exact hF1.dfwf⟩
              have hne2 : (cc E L.mask L.ntmps (some l) L.body).f way t1 (setL s1 l { L1 with state := .busy }) .normal ≠ .fail := fun e => by rw [e] at h; cases h
              have hl2 : ∀ l0, some l = some l0 → l0 < (setL s1 l { L1 with state := .busy }).nx := fun l0 h => by rw [e1]; exact Nat.lt_of_lt_of_le (hl1 l0 h) hG1.nx
              have hB := cc_ok L.mask L.ntmps (some l) L.body t1 _ .normal hne2 m1 _ a1 n hF2 hl2
              rw [show (Option.map m1.blk (some l)) = some (m.blk l) from by rw [Option.map_some, hblk]] at hB
              refine wpIn_mono hB fun e2' a2 w2 hq2 => ?_
              obtain ⟨t2, s2, m2, hF3, hG3, hr3⟩ := hq2
              have hG123 := (hG1.trans hG2).trans hG3
              have hblk2 : m2.blk l = m.blk l := hG123.agree.blk l (hl1 l rfl)
              have fin : ∀ j, roundEnd l j s2 = .ok v s' → ∃ v1 w', (Instr.endRound (m.blk l) j).run E.P w2 = .ok v1 w' ∧ Post m s w v s' (.returned v1) w' := by
                intro j hj
                obtain ⟨w', k1, k2, k3, k4⟩ := roundEnd_ok hE hj hF3.rel
                rw [hblk2] at k1
                exact ⟨_, w', k1, post_df hE ⟨m2, rfl, k2, hG123.trans k3, k4⟩⟩
              have hr3' : roundOut l ((cc E L.mask L.ntmps (some l) L.body).f way t1 (setL s1 l { L1 with state := .busy }) .normal) = .ok v s' := h
              cases e2' with
              | normal => exact fin none (by have e : (cc E L.mask L.ntmps (some l) L.body).f way t1 (setL s1 l { L1 with state := .busy }) .normal = .normal t2 s2 := hr3; rw [e] at hr3'; exact hr3')
              | ret => exact fin (some .ret) (by have e : (cc E L.mask L.ntmps (some l) L.body).f way t1 (setL s1 l { L1 with state := .busy }) .normal = .ret t2 s2 := hr3; rw [e] at hr3'; exact hr3')
              | exit id => exact fin (some (.exit id)) (by have e : (cc E L.mask L.ntmps (some l) L.body).f way t1 (setL s1 l { L1 with state := .busy }) .normal = .exit id t2 s2 := hr3; rw [e] at hr3'; exact hr3')
              | goto t => exact fin (some (.goto t)) (by have e : (cc E L.mask L.ntmps (some l) L.body).f way t1 (setL s1 l { L1 with state := .busy }) .normal = .goto t t2 s2 := hr3; rw [e] at hr3'; exact hr3')
              | panic ch => exact hr3.elim
              | outgrown => exact hr3.elim
        | _ => rw [ho1] at h; cases h
      | exit id =>
        have e : (cc E L.mask L.ntmps (some l) L.assign).f way tm (s.withDf []) .normal = .exit id t1 s1 := hr1
        rw [e] at h; cases h
      | goto id =>
        have e : (cc E L.mask L.ntmps (some l) L.assign).f way tm (s.withDf []) .normal = .goto id t1 s1 := hr1
        rw [e] at h; cases h
      | ret =>
        have e : (cc E L.mask L.ntmps (some l) L.assign).f way tm (s.withDf []) .normal = .ret t1 s1 := hr1
        rw [e] at h; cases h
      | panic ch => exact hr1.elim
      | outgrown => exact hr1.elim
  | _ => rw [ho] at h; cases h

/-! ### All code -/
def DrawOk (E : Env) : Prop := ∀ (way : Way), WayOk E way → ∀ G N rd id (ops : Array Oper), RunOk E G N rd (.region id ops true) fun t s k => (runDraw E N G (ancL ops.toList []) ops.toList (planOf ops.toList)).f way [] t s [] k
theorem labOk_none {E : Env} (_hE : EnvOk E) {G N : Nat} {rd : Option Nat} {way : Way} {c : Code} (h : ∀ l, findLabel c l = none) : LabOk E G N rd way c noLab := fun l => by rw [h l]; trivial
theorem cc_runOk {E : Env} (hE : EnvOk E) (hD : DrawOk E) {way : Way} (hW : WayOk E way) (G N : Nat) (rd : Option Nat) (c : Code) : RunOk E G N rd c ((cc E G N rd c).f way) ∧ LabOk E G N rd way c (cc E G N rd c).lab := by
  induction c with
  | skip => exact ⟨fun t s k hr m w a n hF hrd => wpIn_skip ⟨t, s, m, hF, .refl _ _ _, rfl⟩, labOk_none hE fun l => rfl⟩
  | label l =>
    refine ⟨fun t s k hr m w a n hF hrd => wpIn_label ⟨t, s, m, hF, .refl _ _ _, rfl⟩, fun l' => ?_⟩
    show match (cond (Nat.beq l l') (some (⟨fun _ t s k => k t s⟩ : CRun)) none : Option CRun), (if (l == l') = true then some Code.skip else none) with
      | some r, some rest => RunOk E G N rd rest (r.f way)
      | none, none => True
      | _, _ => False
    by_cases e : l = l'
    · subst e
      rw [Nat.beq_refl, if_pos (by simp)]
      exact fun t s k hr m w a n hF hrd => wpIn_skip ⟨t, s, m, hF, .refl _ _ _, rfl⟩
    · rw [beq_ne e, if_neg (by simpa using e)]
      trivial
  | ret => exact ⟨fun t s k hr m w a n hF hrd => wpIn_ret ⟨t, s, m, hF, .refl _ _ _, rfl⟩, labOk_none hE fun l => rfl⟩
  | exit id => exact ⟨fun t s k hr m w a n hF hrd => wpIn_exit ⟨t, s, m, hF, .refl _ _ _, rfl⟩, labOk_none hE fun l => rfl⟩
  | goto l => exact ⟨fun t s k hr m w a n hF hrd => wpIn_goto ⟨t, s, m, hF, .refl _ _ _, rfl⟩, labOk_none hE fun l => rfl⟩
  | seq x y ihx ihy =>
    refine ⟨runOk_seq (rx := (cc E G N rd x).f way) (ry := (cc E G N rd y).f way) ihx.1 ihy.1, fun l => ?_⟩
    have hx := ihx.2 l
    have hy := ihy.2 l
    show match labSeq ((cc E G N rd x).lab l) (cc E G N rd y).f ((cc E G N rd y).lab l), (match findLabel x l with | some rest => some (Code.seq rest y) | none => findLabel y l) with
      | some r, some rest => RunOk E G N rd rest (r.f way)
      | none, none => True
      | _, _ => False
    cases h1 : (cc E G N rd x).lab l with
    | some r =>
      rw [h1] at hx
      cases h2 : findLabel x l with
      | none => rw [h2] at hx; exact hx.elim
      | some rest => rw [h2] at hx; exact runOk_seq (rx := r.f way) (ry := (cc E G N rd y).f way) hx ihy.1
    | none =>
      rw [h1] at hx
      cases h2 : findLabel x l with
      | some rest => rw [h2] at hx; exact hx.elim
      | none => exact hy
  | cond x a b iha ihb =>
    have e : cc E G N rd (.cond x a b) = cond (okO ⟨G, []⟩ x) ⟨fun w t s k => Option.rec (motive := fun _ => Out) .fail (fun v => Bool.rec (motive := fun _ => Out) ((cc E G N rd b).f w t s k) ((cc E G N rd a).f w t s k) v) (boolOf ((ev ⟨G, []⟩ x).f [] t)), noLab⟩ ⟨fun _ _ _ _ => .fail, noLab⟩ := rfl
    rw [e]
    cases hok : okO ⟨G, []⟩ x with
    | false => exact ⟨runOk_fail fun _ _ _ => rfl, labOk_none hE fun l => rfl⟩
    | true =>
      refine ⟨fun t s k hr m w ac n hF hrd => ?_, labOk_none hE fun l => rfl⟩
      simp only [cond_true] at hr ⊢
      rw [recO] at hr ⊢
      have hv := hF.env.args.2.val x hok
      cases hb : boolOf ((ev ⟨G, []⟩ x).f [] t) with
      | none => rw [hb] at hr; exact absurd rfl hr
      | some v =>
        rw [hb] at hr
        rw [boolOf_eq hE hb] at hv
        simp only at hr ⊢
        rw [recB] at hr ⊢
        refine wpIn_cond hv ?_
        cases v
        · exact ihb.1 t s k hr m w ac n hF hrd
        · exact iha.1 t s k hr m w ac n hF hrd
  | block id b ih => exact ⟨runOk_block ih.1, labOk_none hE fun l => rfl⟩
  | loop b ih =>
    have e : cc E G N rd (.loop b) = ⟨fun w t s _ => loopO ((cc E G N rd b).f w) fuelL t s, noLab⟩ := rfl
    rw [e]
    exact ⟨runOk_loop (rx := (cc E G N rd b).f way) fuelL ih.1, labOk_none hE fun l => rfl⟩
  | scope b ih =>
    have e : cc E G N rd (.scope b) = ⟨fun w t s k => scopeO (cc E G N rd b).lab w k fuelL ((cc E G N rd b).f w t s .normal), noLab⟩ := rfl
    rw [e]
    exact ⟨runOk_scope (rx := (cc E G N rd b).f way) (lab := (cc E G N rd b).lab) fuelL ih.1 ih.2, labOk_none hE fun l => rfl⟩
  | rangeFunc f ps a b iha ihb =>
    have e : cc E G N rd (.rangeFunc f ps a b) = cond (okO ⟨G, []⟩ f) ⟨fun w t s k => rangeF E G N rd ((ev ⟨G, []⟩ f).f [] t) ps a b w t s k, noLab⟩ ⟨fun _ _ _ _ => .fail, noLab⟩ := rfl
    rw [e]
    cases hok : okO ⟨G, []⟩ f with
    | false => exact ⟨runOk_fail fun _ _ _ => rfl, labOk_none hE fun l => rfl⟩
    | true => exact ⟨runOk_range hE hW G N rd f ps a b hok, labOk_none hE fun l => rfl⟩
  | region id ops draw =>
    cases draw with
    | false => exact ⟨runOk_region hE hW G N rd id ops, labOk_none hE fun l => rfl⟩
    | true => exact ⟨hD way hW G N rd id ops, labOk_none hE fun l => rfl⟩
  | refuse x => exact ⟨runOk_fail fun _ _ _ => rfl, labOk_none hE fun l => rfl⟩
theorem way_ok {E : Env} (hE : EnvOk E) (hD : DrawOk E) (n : Nat) : WayOk E (way E n) := by
  induction n with
  | zero =>
    have e : way E 0 = ⟨fun _ _ _ => .fail, fun _ _ _ => .fail⟩ := rfl
    rw [e]
    exact ⟨fun f args s v s' h => absurd h (fun h => CR.noConfusion h), fun l args s v s' h => absurd h (fun h => CR.noConfusion h)⟩
  | succ n ih =>
    have e : way E (n + 1) = ⟨callW E (way E n), roundW E (way E n)⟩ := rfl
    rw [e]
    exact ⟨fun f args s v s' h m w hR hf hw k => callW_ok hE (fun G N rd c => (cc_runOk hE hD ih G N rd c).1) f args s v s' h m w hR hf hw k,
      fun l args s v s' h m w hR hf hw k => roundW_ok hE (fun G N rd c => (cc_runOk hE hD ih G N rd c).1) l args s v s' h m w hR hf hw k⟩
/-- **a run of the executor is a call of the machine's** -/
theorem callX_ok {E : Env} (hE : EnvOk E) (hD : DrawOk E) {n : Nat} {f : FuncId} {args : List AV} {s s' : St} {v : AV} (h : callX E n f args s = .ok v s') (m : Ren) (w : World) (hR : Rel m s w.heap) (hf : FactsOk E m.ρ) (hw : wfL s.nx args) (k : Nat) :
    CallsIn Fence.wide k E.P f (valL m args).toArray w (Post m s w v s') := (way_ok hE hD n).call f args s v s' h m w hR hf hw k
end Go.Vx
