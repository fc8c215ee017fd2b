/- The abstract executor: how a call leaves; calls. -/
import Derived.Test.YtnccicagemmjeaaGreatDoorVx26
namespace Go.Vx

theorem loadVar_ok {E : Env} (hE : EnvOk E) {s : St} {t : TypeId} {b o : Nat} {v : AV} {m : Ren} {w : World} (h : loadVar E.T s t b o = some v) (hR : Rel m s w.heap) :
    (Go.loadVar t ⟨m.blk b, m.sh b + o, none⟩).run E.P w = .ok (v.val m) w ∧ v.wf s.nx := by
  unfold loadVar at h
  cases hk : varK E.T t with
  | no => rw [hk] at h; cases h
  | agg n =>
    rw [hk] at h
    simp only at h
    rw [recO] at h
    cases hl : loadCells s b o n with
    | none => rw [hl] at h; cases h
    | some cs =>
      rw [hl] at h; cases h
      obtain ⟨g1, g2⟩ := varK_agg hE hk w
      refine ⟨?_, loadCells_wf hE (Rel.wf hE hR) hl⟩
      simp only [Go.loadVar, Sem.run_bind, Sem.run_pure, Result.andThen_ok, g1, if_true, g2, run_foot hE (foot_cells hE hR b o n) hl]
      rfl
  | one =>
    rw [hk] at h
    simp only at h
    have hl := loadCell_cells hE h
    refine ⟨?_, (loadCells_wf hE (Rel.wf hE hR) hl).1⟩
    have hcell := (foot_cells hE hR b o 1) [v] hl 0 v rfl
    simp only [Go.loadVar, Sem.run_bind, Sem.run_pure, Result.andThen_ok, varK_one hE hk w, Bool.false_eq_true, if_false, run_load]
    rw [show (⟨m.blk b, m.sh b + o, none⟩ : Addr) = ⟨m.blk b, m.sh b + o + 0, none⟩ from rfl, hcell]
/-- one result -/
def resSem (tmps : Array Value) : ResultVar → Sem Value
  | .tmp t => pure (tmps.getD t undef)
  | .cell a t => do Go.loadVar t (← asAddr (tmps.getD a undef))
theorem results_ok {E : Env} (hE : EnvOk E) {G N : Nat} {tm : Tm} {s : St} {m : Ren} {a : Act} {w : World} (hR : Rel m s w.heap) (henv : EnvRel ⟨G, []⟩ N [] tm m s.nx a) : ∀ (rs : List ResultVar) (l : List AV), (resL E G rs).f tm s = some l →
    (rs.mapM (resSem a.tmps)).run E.P w = .ok (valL m l) w ∧ wfL s.nx l := by
  intro rs
  have tmp : ∀ t, bit G t = true → a.tmps.getD t undef = ((ev ⟨G, []⟩ (.tmp t)).f [] tm).val m ∧ ((ev ⟨G, []⟩ (.tmp t)).f [] tm).wf s.nx := by
    intro t ht
    rw [ev_tmp, if_pos ht]
    exact ⟨henv.glb t ht, henv.twf.gets t⟩
  induction rs with
  | nil => intro l h; cases h; exact ⟨rfl, trivial⟩
  | cons r rs ih =>
    intro l h
    cases r with
    | tmp t =>
      have e : (resL E G (.tmp t :: rs)).f tm s = (cond (bit G t) (⟨fun tm s => Option.rec (motive := fun _ => Option (List AV)) none (fun m => some ((ev ⟨G, []⟩ (.tmp t)).f [] tm :: m)) ((resL E G rs).f tm s)⟩ : ResR) ⟨fun _ _ => none⟩).f tm s := rfl
      rw [e] at h
      cases hb : bit G t with
      | false => rw [hb] at h; cases h
      | true =>
        rw [hb] at h
        simp only [cond_true] at h
        rw [recO] at h
        cases hr : (resL E G rs).f tm s with
        | none => rw [hr] at h; cases h
        | some l' =>
          rw [hr] at h; cases h
          obtain ⟨h1, h2⟩ := ih l' hr
          obtain ⟨h3, h4⟩ := tmp t hb
          refine ⟨?_, h4, h2⟩
          rw [List.mapM_cons]
          simp only [resSem, Sem.run_bind, Sem.run_pure, Result.andThen_ok, h1, h3]
          rfl
    | cell x t =>
      have e : (resL E G (.cell x t :: rs)).f tm s = (cond (bit G x) (⟨fun tm s => onPtr none ((ev ⟨G, []⟩ (.tmp x)).f [] tm) fun b o => Option.rec (motive := fun _ => Option (List AV)) none (fun v => Option.rec (motive := fun _ => Option (List AV)) none (fun m => some (v :: m)) ((resL E G rs).f tm s)) (loadVar E.T s t b o)⟩ : ResR) ⟨fun _ _ => none⟩).f tm s := rfl
      rw [e] at h
      cases hb : bit G x with
      | false => rw [hb] at h; cases h
      | true =>
        rw [hb] at h
        simp only [cond_true, onPtr_eq hE] at h
        split at h
        · rename_i b o he
          rw [recO] at h
          cases hv : loadVar E.T s t b o with
          | none => rw [hv] at h; cases h
          | some v =>
            rw [hv] at h
            simp only at h
            rw [recO] at h
            cases hr : (resL E G rs).f tm s with
            | none => rw [hr] at h; cases h
            | some l' =>
              rw [hr] at h; cases h
              obtain ⟨h1, h2⟩ := ih l' hr
              obtain ⟨h3, h4⟩ := tmp x hb
              obtain ⟨h5, h6⟩ := loadVar_ok hE hv hR
              refine ⟨?_, h6, h2⟩
              rw [List.mapM_cons]
              simp only [resSem, Sem.run_bind, h3, he, AV.val, asAddr, Sem.run_pure, Result.andThen_ok, h5, h1]
              rfl
        · cases h
theorem oneOf_val {E : Env} (_hE : EnvOk E) (m : Ren) (l : List AV) {n : Nat} (hw : wfL n l) : ((oneOf l).val m = if h : (valL m l).toArray.size = 1 then (valL m l).toArray[0] else .tuple (valL m l).toArray) ∧ (oneOf l).wf n := by
  rcases l with _ | ⟨v, _ | ⟨u, l⟩⟩
  · exact ⟨rfl, trivial⟩
  · exact ⟨rfl, hw.1⟩
  · refine ⟨?_, hw⟩
    rw [dif_neg (by simp [valL])]
    rfl
theorem run_results {E : Env} (hE : EnvOk E) {G N : Nat} {tm : Tm} {s : St} {m : Ren} {a : Act} {w : World} (hR : Rel m s w.heap) (henv : EnvRel ⟨G, []⟩ N [] tm m s.nx a) {fn : Func} {l : List AV} (h : (resL E G fn.results.toList).f tm s = some l) :
    (results fn a.tmps).run E.P w = .ok ((oneOf l).val m) w ∧ (oneOf l).wf s.nx := by
  obtain ⟨h1, h2⟩ := results_ok hE hR henv _ _ h
  obtain ⟨h3, h4⟩ := oneOf_val hE m l h2
  refine ⟨?_, h4⟩
  have e : results fn a.tmps = (do let vs ← fn.results.mapM (resSem a.tmps); pure (if h : vs.size = 1 then vs[0] else .tuple vs)) := by
    unfold results
    rfl
  rw [e, Array.mapM_eq_mapM_toList]
  simp only [Sem.run_bind, Sem.run_map, h1, Result.andThen_ok, Sem.run_pure]
  rw [h3]

theorem run_setObj_other {E : Env} (_hE : EnvOk E) {P : Program} {w : World} {k : Nat} {O O' : Obj} (h : w.heap[k]? = some O) (hc : ∀ c e f, O ≠ .cells c e f) : (setObj k O').run P w = .ok () { w with heap := w.heap.setIfInBounds k O' } := by
  unfold setObj
  simp only [Sem.run]
  rw [h]
  cases O <;> first | rfl | exact absurd rfl (hc _ _ _)
/-- the marks are taken -/
theorem takeMarks_ok {E : Env} (hE : EnvOk E) {m : Ren} {fn : Func} {tmps : Array Value} {R : Ending → World → Prop} {n : Nat} : ∀ (ds : List Nat) (s s' : St) (w : World), takeMarks ds s = some s' → Rel m s w.heap →
    (∀ w', Rel m s' w'.heap → Grow m s w m s' w' → s'.nx = s.nx → LeavesIn Fence.wide n E.P fn tmps R [] .returning w') → LeavesInM Fence.wide n E.P fn tmps R (ds.map (markD m)) .returning w := by
  intro ds
  induction ds with
  | nil => intro s s' w h hR H; cases h; exact H w hR (.refl _ _ _) rfl
  | cons d ds ih =>
    intro s s' w h hR H
    unfold takeMarks at h
    split at h
    · rename_i hb
      have hb := obj_get hE hb trivial
      have hobj : w.heap[m.blk d]? = some (.deferred (some [])) := hR.obj d _ hb
      have hrun : (Instr.takeDeferred (m.blk d)).run E.P w = .ok [] { w with heap := w.heap.setIfInBounds (m.blk d) (.deferred none) } := by
        have hg : (getObj (m.blk d)).run E.P w = .ok (.deferred (some [])) w := by simp [getObj, Sem.run, hobj]
        unfold Instr.takeDeferred
        simp only [Sem.run_bind, hg, Result.andThen_ok]
        rw [run_setObj_other hE hobj (by intro c e f h; cases h)]
        rfl
      obtain ⟨hR', hG⟩ := setO_ok hE (o' := .dead) (O := .deferred none) hR hb trivial rfl rfl trivial trivial
      refine ⟨by simp, .inl ⟨m.blk d, _, rfl, hrun, ?_⟩⟩
      refine ih _ _ _ h hR' fun w' hR2 hG2 hnx => ?_
      rw [setO_eq hE] at hnx
      exact H w' hR2 (hG.trans hG2) hnx
    · cases h

theorem argTr_get {E : Env} (_hE : EnvOk E) (args : List AV) : ∀ (i : Nat) (t : Tm) (x : Nat), (argTr args i t).get x = if x < i then t.get x else match args[x - i]? with | some v => some v | none => t.get x := by
  induction args with
  | nil => intro i t x; show t.get x = _; split <;> rfl
  | cons v args ih =>
    intro i t x
    show (argTr args (Nat.succ i) (t.set i v)).get x = _
    rw [ih, get_set]
    by_cases h1 : x < i
    · rw [if_pos (by omega), if_pos h1, if_neg (by omega)]
    · rw [if_neg h1]
      by_cases h2 : x = i
      · subst h2; rw [if_pos (by omega), if_pos rfl]; simp
      · rw [if_neg (by omega), if_neg h2]
        obtain ⟨k, rfl⟩ : ∃ k, x = i + 1 + k := ⟨x - (i + 1), by omega⟩
        rw [show i + 1 + k - (Nat.succ i) = k by omega, show i + 1 + k - i = k + 1 by omega, List.getElem?_cons_succ]
theorem get_nil' {E : Env} (_hE : EnvOk E) {α : Type} (x : Nat) : (Tr.nil : Tr α).get x = none := by
  unfold Tr.get Tr.getF
  rfl
/-- a function's begin -/
theorem enter_Fr {E : Env} (hE : EnvOk E) {G : Nat} {args : List AV} {s : St} {m : Ren} {w : World} {N : Nat} (hR : Rel m s w.heap) (hf : FactsOk E m.ρ) (hw : wfL s.nx args) (hn : args.length ≤ N) :
    Fr E ⟨G, []⟩ N [] (argTr args 0 .nil) (s.withDf []) m { tmps := (valL m args).toArray ++ Array.replicate (N - (valL m args).toArray.size) undef, defers := [] } w := by
  refine ⟨rel_df hE hR _, hf, ⟨by simp [valL_len]; omega, fun t ht => ?_, fun d v hd => ?_, fun i d v hd => (by cases hd), rfl, trivial⟩, by rw [withDf_eq hE]; rfl, by rw [withDf_eq hE]; intro d hd; cases hd⟩
  · unfold gets
    rw [argTr_get hE, if_neg (Nat.not_lt_zero _), Nat.sub_zero, get_nil' hE, Array.getD_eq_getD_getElem?]
    cases ha : args[t]? with
    | some v =>
      have hlt : t < (valL m args).toArray.size := by
        rcases Nat.lt_or_ge t args.length with h | h
        · simpa [valL_len] using h
        · rw [List.getElem?_eq_none h] at ha; cases ha
      rw [Array.getElem?_append_left hlt, List.getElem?_toArray, valL_get, ha]
      rfl
    | none =>
      have hge : args.length ≤ t := by
        rcases Nat.lt_or_ge t args.length with h | h
        · rw [List.getElem?_eq_getElem h] at ha; cases ha
        · exact h
      rw [Array.getElem?_append_right (by simpa [valL_len] using hge), Array.getElem?_replicate]
      split <;> rfl
  · rw [argTr_get hE, if_neg (Nat.not_lt_zero _), Nat.sub_zero, get_nil' hE] at hd
    rw [withDf_eq hE]
    cases ha : args[d]? with
    | some u => rw [ha] at hd; cases hd; exact (wfL_iff _ _).1 hw _ (List.mem_of_getElem? ha)
    | none => rw [ha] at hd; cases hd
theorem post_df {E : Env} (hE : EnvOk E) {m : Ren} {s : St} {w : World} {v : AV} {s' : St} {df : List Nat} {e : Ending} {w' : World} (h : Post m (s.withDf df) w v s' e w') : Post m s w v s' e w' := by
  obtain ⟨m', he, hR, hG, hwf⟩ := h
  rw [withDf_eq hE] at hG
  exact ⟨m', he, hR, ⟨hG.agree, hG.nx, hG.size, hG.frame, hG.img, hG.os, hG.tape, hG.output⟩, hwf⟩
theorem callW_ok {E : Env} (hE : EnvOk E) {way : Way} (cc_ok : ∀ G N rd c, RunOk E G N rd c ((cc E G N rd c).f way)) (f : FuncId) (args : List AV) (s : St) (v : AV) (s' : St) (h : callW E way f args s = .ok v s') (m : Ren) (w : World)
    (hR : Rel m s w.heap) (hfa : FactsOk E m.ρ) (hw : wfL s.nx args) (n : Nat) : CallsIn Fence.wide n E.P f (valL m args).toArray w (Post m s w v s') := by
  unfold callW at h
  unfold fnR at h
  cases hF : E.F.get f with
  | none => rw [hF] at h; cases h
  | some fn =>
    obtain ⟨hfn, _⟩ := hE.F f fn hF
    rw [hF] at h
    simp only at h
    cases hbody : fn.body with
    | none => rw [hbody] at h; cases h
    | some c =>
      rw [hbody] at h
      unfold fnG at h
      simp only [lenL_eq] at h
      revert h
      generalize maskF c fn.results.toList = G
      intro h
      cases hn : Nat.ble args.length fn.ntmps with
      | false => rw [hn] at h; cases h
      | true =>
        rw [hn] at h
        simp only [cond_true] at h
        have hn := Nat.le_of_ble_eq_true hn
        have hne : (cc E G fn.ntmps none c).f way (argTr args 0 .nil) (s.withDf []) .normal ≠ .fail := fun e => by rw [e] at h; cases h
        have hFr := enter_Fr hE (G := G) hR hfa hw hn
        refine callsIn_of_wp_marks hfn hbody trivial (wpIn_mono (cc_ok G fn.ntmps none c _ _ _ hne m w _ n hFr (fun l0 h => by cases h)) fun e a' w' hq => ?_)
        obtain ⟨t2, s2, m2, hF2, hG2, hr2⟩ := hq
        have fin : leaveF (resL E G fn.results.toList) t2 (takeMarks s2.df s2) = .ok v s' → LeavesInM Fence.wide n E.P fn a'.tmps (Post m s w v s') a'.defers .returning w' := by
          intro h
          unfold leaveF at h
          rw [recO] at h
          cases htm : takeMarks s2.df s2 with
          | none => rw [htm] at h; cases h
          | some s3 =>
            rw [htm] at h
            simp only at h
            rw [recO] at h
            cases hres : (resL E G fn.results.toList).f t2 s3 with
            | none => rw [hres] at h; cases h
            | some l =>
              rw [hres] at h; cases h
              rw [hF2.df]
              refine takeMarks_ok hE _ _ _ _ htm hF2.rel fun w3 hR3 hG3 hnx => ?_
              have henv : EnvRel ⟨G, []⟩ fn.ntmps [] t2 m2 s'.nx a' := by rw [hnx]; exact hF2.env
              obtain ⟨h1, h2⟩ := run_results hE hR3 henv hres
              exact ⟨_, h1, post_df hE ⟨m2, rfl, hR3, hG2.trans hG3, h2⟩⟩
        cases e with
        | normal => exact fin (by have e : (cc E G fn.ntmps none c).f way (argTr args 0 .nil) (s.withDf []) .normal = .normal t2 s2 := hr2; rw [e] at h; exact h)
        | ret => exact fin (by have e : (cc E G fn.ntmps none c).f way (argTr args 0 .nil) (s.withDf []) .normal = .ret t2 s2 := hr2; rw [e] at h; exact h)
        | exit id =>
          have e : (cc E G fn.ntmps none c).f way (argTr args 0 .nil) (s.withDf []) .normal = .exit id t2 s2 := hr2
          rw [e] at h; cases h
        | goto id =>
          have e : (cc E G fn.ntmps none c).f way (argTr args 0 .nil) (s.withDf []) .normal = .goto id t2 s2 := hr2
          rw [e] at h; cases h
        | panic ch => exact hr2.elim
        | outgrown => exact hr2.elim
end Go.Vx
