/- The abstract executor: operations that read, or lay one new object. -/
import Derived.Test.YtnccicagemmjeaaGreatDoorVx7
namespace Go.Vx

/-! ### What a place in the heap tells -/
def FootOk (E : Env) (m : Ren) (w : World) (s : St) (f : Foot) : Prop := match f with
  | .cells b o n => ∀ xs, loadCells s b o n = some xs → ∀ i v, xs[i]? = some v → w.cell? ⟨m.blk b, m.sh b + o + i, none⟩ = some (v.val m)
  | .look t x k ok => ∀ v, lookupA E t x k ok s = some v → (Instr.lookup t (x.val m) (k.val m) ok).run E.P w = .ok (v.val m) w
  | .len r => ∀ es clock, s.hp.get r = some (.mapo es clock) → ∃ es' clock', w.heap[m.blk r]? = some (.map es' clock') ∧ es'.size = es.length
  | .row b => ∀ cells es g p, s.hp.get b = some (.row cells es g p) → cells.length ≤ m.cap b * es
def StWf (s : St) : Prop := ∀ b o, s.hp.get b = some o → o.wf s.nx
/-- what an operation does that turns no object -/
def PureOut (P : Program) (m : Ren) (s : St) (w : World) (c : Sem Next) (v : AV) (s' : St) : Prop :=
  (s' = s ∧ c.run P w = .ok (.value (v.val m)) w) ∨
  ∃ ob O cap w', s' = (s.new ob).2 ∧ c.run P w = .ok (.value (v.val (m.add s.nx w.heap.size 0 cap))) w' ∧ w'.heap = w.heap.push O ∧ w'.os = w.os ∧ w'.tape = w.tape ∧ w'.output = w.output ∧
    ob.wf (s.nx + 1) ∧ (∀ g p, ob.key = some (g, p) → g = s.nx) ∧ ob.rel (m.add s.nx w.heap.size 0 cap) w'.heap s.nx
def OpPure (E : Env) (c : Cx) (o : Op) : Prop := ∀ (oper : Oper), oper.op = o → okOs c (opL o) = true → ∀ (way : Way) (l : List AV) (tm : Tm) (s : St) (k : AV → St → Out),
  (hop E c o).f way l tm s k = .fail ∨ ∃ v s', (∀ k, (hop E c o).f way l tm s k = k v s') ∧ (StWf s → ArgsWf c l tm s.nx → v.wf s'.nx ∧ ∀ m w ρ, FactsOk E m.ρ → ArgsVal c l tm m ρ →
    (∀ fs, (footOf E c o).f l tm = some fs → ∀ f ∈ fs, FootOk E m w s f) → PureOut E.P m s w (execOp ρ oper) v s')

theorem vO_f (vf : List AV → Tm → St → Option AV) (way : Way) (l : List AV) (tm : Tm) (s : St) (k : AV → St → Out) : (vO vf).f way l tm s k = match vf l tm s with | none => .fail | some v => k v s := by
  show (Option.rec (motive := fun _ => Out) .fail (fun v => k v s) (vf l tm s)) = _
  cases vf l tm s <;> rfl
theorem sO_f (sf : List AV → Tm → St → Option (AV × St)) (way : Way) (l : List AV) (tm : Tm) (s : St) (k : AV → St → Out) : (sO sf).f way l tm s k = match sf l tm s with | none => .fail | some p => k p.1 p.2 := by
  show (Option.rec (motive := fun _ => Out) .fail (fun p => Prod.rec (motive := fun _ => Out) k p) (sf l tm s)) = _
  cases sf l tm s <;> rfl
theorem uO_f (uf : List AV → Tm → St → Option St) (way : Way) (l : List AV) (tm : Tm) (s : St) (k : AV → St → Out) : (uO uf).f way l tm s k = match uf l tm s with | none => .fail | some s' => k undefA s' := by
  show (Option.rec (motive := fun _ => Out) .fail (fun s' => k undefA s') (uf l tm s)) = _
  cases uf l tm s <;> rfl
theorem run_v (P : Program) (w : World) (c : Sem Value) : (do pure (Next.value (← c)) : Sem Next).run P w = (c.run P w).andThen fun a w' => .ok (.value a) w' := by simp
theorem pure_fail {E : Env} {c : Cx} {o : Op} (h : hop E c o = failO) : OpPure E c o := fun _ _ _ _ _ _ _ _ => .inl (by rw [h]; rfl)
/-- an operation that reads -/
theorem pure_v {E : Env} {c : Cx} {o : Op} (vf : List AV → Tm → St → Option AV) (h : hop E c o = vO vf)
    (H : ∀ (oper : Oper), oper.op = o → okOs c (opL o) = true → ∀ l tm s v, vf l tm s = some v → StWf s → ArgsWf c l tm s.nx → v.wf s.nx ∧ ∀ m w ρ, FactsOk E m.ρ → ArgsVal c l tm m ρ →
      (∀ fs, (footOf E c o).f l tm = some fs → ∀ f ∈ fs, FootOk E m w s f) → (execOp ρ oper).run E.P w = .ok (.value (v.val m)) w) : OpPure E c o := by
  intro oper ho hok way l tm s k
  rw [h, vO_f]
  cases hv : vf l tm s with
  | none => exact .inl rfl
  | some v =>
    refine .inr ⟨v, s, fun k => by rw [vO_f, hv], fun hS hw => ?_⟩
    obtain ⟨h1, h2⟩ := H oper ho hok l tm s v hv hS hw
    exact ⟨h1, fun m w ρ hf hv hfo => .inl ⟨rfl, h2 m w ρ hf hv hfo⟩⟩
/-- one that lays a new object -/
theorem pure_s {E : Env} {c : Cx} {o : Op} (sf : List AV → Tm → St → Option (AV × St)) (h : hop E c o = sO sf)
    (H : ∀ (oper : Oper), oper.op = o → okOs c (opL o) = true → ∀ l tm s v s', sf l tm s = some (v, s') → StWf s → ArgsWf c l tm s.nx → v.wf s'.nx ∧ ∀ m w ρ, FactsOk E m.ρ → ArgsVal c l tm m ρ →
      (∀ fs, (footOf E c o).f l tm = some fs → ∀ f ∈ fs, FootOk E m w s f) → PureOut E.P m s w (execOp ρ oper) v s') : OpPure E c o := by
  intro oper ho hok way l tm s k
  rw [h, sO_f]
  cases hv : sf l tm s with
  | none => exact .inl rfl
  | some p => exact .inr ⟨p.1, p.2, fun k => by rw [sO_f, hv], H oper ho hok l tm s p.1 p.2 hv⟩

theorem exec_v {P : Program} {w : World} {c : Sem Value} {v : Value} (h : c.run P w = .ok v w) : (do pure (Next.value (← c)) : Sem Next).run P w = .ok (.value v) w := by rw [run_v, h]; rfl


theorem ok1 {E : Env} (_hE : EnvOk E) (c : Cx) {x : Operand} {l : List Operand} (h : okOs c (x :: l) = true) : okO c x = true := ((okOs_cons c x l).1 h).1
theorem ok2 {E : Env} (_hE : EnvOk E) (c : Cx) {x y : Operand} {l : List Operand} (h : okOs c (x :: y :: l) = true) : okO c y = true := ((okOs_cons c y l).1 ((okOs_cons c x _).1 h).2).1
theorem ok3 {E : Env} (_hE : EnvOk E) (c : Cx) {x y z : Operand} {l : List Operand} (h : okOs c (x :: y :: z :: l) = true) : okO c z = true := ((okOs_cons c z l).1 ((okOs_cons c y _).1 ((okOs_cons c x _).1 h).2).2).1

theorem pure_move {E : Env} (_hE : EnvOk E) (c : Cx) (x : Operand) : OpPure E c (.move x) :=
  pure_v (fun l tm _ => some ((ev c x).f l tm)) rfl fun oper ho hok l tm s v hv hS hw => by
    cases hv
    have hx := ((okOs_cons c x []).1 hok).1
    exact ⟨hw.wf x hx, fun m w ρ hf ha _ => by unfold execOp; rw [ho]; simp only; rw [ha.val x hx]; rfl⟩
theorem pure_assign {E : Env} (_hE : EnvOk E) (c : Cx) (x : Operand) : OpPure E c (.assign x) :=
  pure_v (fun l tm _ => some ((ev c x).f l tm)) rfl fun oper ho hok l tm s v hv hS hw => by
    cases hv
    have hx := ((okOs_cons c x []).1 hok).1
    exact ⟨hw.wf x hx, fun m w ρ hf ha _ => by unfold execOp; rw [ho]; simp only; rw [ha.val x hx]; rfl⟩
theorem boolOf_eq {E : Env} (_hE : EnvOk E) {v : AV} {b : Bool} (h : boolOf v = some b) : v = .bool b := by cases v <;> cases h <;> rfl
theorem pure_pick {E : Env} (hE : EnvOk E) (c : Cx) (x a b : Operand) : OpPure E c (.pick x a b) :=
  pure_v (fun l tm _ => Option.rec (motive := fun _ => Option AV) none (fun t => Bool.rec (motive := fun _ => Option AV) (some ((ev c b).f l tm)) (some ((ev c a).f l tm)) t) (boolOf ((ev c x).f l tm))) rfl fun oper ho hok l tm s v hv hS hw => by
    have hx := ok1 hE c hok
    have ha' := ok2 hE c hok
    have hb' := ok3 hE c hok
    rw [recO] at hv
    cases hb : boolOf ((ev c x).f l tm) with
    | none => rw [hb] at hv; cases hv
    | some t =>
      rw [hb] at hv
      simp only at hv
      have he := boolOf_eq hE hb
      cases t
      · cases hv
        exact ⟨hw.wf b hb', fun m w ρ hf ha _ => by unfold execOp; rw [ho]; simp only; rw [ha.val x hx, he, ha.val b hb']; rfl⟩
      · cases hv
        exact ⟨hw.wf a ha', fun m w ρ hf ha _ => by unfold execOp; rw [ho]; simp only; rw [ha.val x hx, he, ha.val a ha']; rfl⟩
theorem pure_nilCheck {E : Env} (hE : EnvOk E) (c : Cx) (x : Operand) : OpPure E c (.nilCheck x) :=
  pure_v (fun l tm _ => nilCheckA ((ev c x).f l tm)) rfl fun oper ho hok l tm s v hv hS hw => by
    have hx := ok1 hE c hok
    have hwx := hw.wf x hx
    have hval := fun (m : Ren) (ρ : Operand → Value) (ha : ArgsVal c l tm m ρ) => ha.val x hx
    revert hv hwx hval
    generalize (ev c x).f l tm = u
    intro hv hwx hval
    cases u <;> try (cases hv; done)
    rename_i b o
    cases hv
    exact ⟨hwx, fun m w ρ hf ha _ => by unfold execOp; rw [ho]; simp only; rw [hval m ρ ha]; rfl⟩
theorem pure_makeFunc {E : Env} (_hE : EnvOk E) (c : Cx) (f : Fn) (a b : Array Operand) : OpPure E c (.makeFunc f a b) := by
  cases hf : fnOk f with
  | false => exact pure_fail (by simp [hop, hf])
  | true =>
    refine pure_v (fun l tm _ => some (.fn f ((evL c a.toList).f l tm) ((evL c b.toList).f l tm))) (by simp [hop, hf]) fun oper ho hok l tm s v hv hS hw => ?_
    cases hv
    have hab : okOs c a.toList = true ∧ okOs c b.toList = true := by
      have : okOs c (a.toList ++ b.toList) = true := by rw [← appL_eq]; exact hok
      revert this
      generalize a.toList = as
      induction as with
      | nil => exact fun h => ⟨rfl, h⟩
      | cons y ys ih =>
        intro h
        obtain ⟨h1, h2⟩ := (okOs_cons c y _).1 h
        obtain ⟨h3, h4⟩ := ih h2
        exact ⟨(okOs_cons c y _).2 ⟨h1, h3⟩, h4⟩
    refine ⟨⟨evL_wf hw _ hab.1, evL_wf hw _ hab.2⟩, fun m w ρ _ ha _ => ?_⟩
    unfold execOp; rw [ho]; simp only
    refine exec_v ?_
    have e1 : a.map ρ = (valL m ((evL c a.toList).f l tm)).toArray := by rw [← evL_val ha _ hab.1]; apply Array.ext'; simp
    have e2 : b.map ρ = (valL m ((evL c b.toList).f l tm)).toArray := by rw [← evL_val ha _ hab.2]; apply Array.ext'; simp
    rw [e1, e2]; rfl
theorem pure_extract {E : Env} (hE : EnvOk E) (c : Cx) (x : Operand) (i : Nat) : OpPure E c (.extract x i) :=
  pure_v (fun l tm _ => extractA ((ev c x).f l tm) i) rfl fun oper ho hok l tm s v hv hS hw => by
    have hx := ok1 hE c hok
    have hwx := hw.wf x hx
    have hval := fun (m : Ren) (ρ : Operand → Value) (ha : ArgsVal c l tm m ρ) => ha.val x hx
    revert hv hwx hval
    generalize (ev c x).f l tm = u
    intro hv hwx hval
    cases u <;> try (cases hv; done)
    rename_i vs
    have hn : vs[i]? = some v := by rw [← nth_eq]; exact hv
    refine ⟨(wfL_iff _ _).1 hwx v (List.mem_of_getElem? hn), fun m w ρ hf ha _ => ?_⟩
    unfold execOp; rw [ho]; simp only
    refine exec_v ?_
    rw [hval m ρ ha]
    simp [AV.val, Instr.extract, valL_get, hn]
theorem pure_makeInterface {E : Env} (hE : EnvOk E) (c : Cx) (t : TypeId) (x : Operand) : OpPure E c (.makeInterface t x) := by
  have hh : hop E c (.makeInterface t x) = makeIfcA E c t x := rfl
  unfold makeIfcA at hh
  cases hu : undT E.T t with
  | none => rw [hu] at hh; exact pure_fail hh
  | some d =>
    rw [hu] at hh
    by_cases hd : ∃ ms, d = .interface ms
    · obtain ⟨ms, rfl⟩ := hd; exact pure_fail hh
    · refine pure_v (fun l tm _ => some (.ifc t ((ev c x).f l tm))) (by rw [hh]; cases d <;> first | rfl | exact absurd ⟨_, rfl⟩ hd) fun oper ho hok l tm s v hv hS hw => ?_
      cases hv
      have hx := ok1 hE c hok
      refine ⟨hw.wf x hx, fun m w ρ hf ha _ => ?_⟩
      unfold execOp; rw [ho]; simp only
      refine exec_v ?_
      rw [ha.val x hx]
      simp only [Instr.makeInterface, Sem.run_bind, run_undT hE hu, Result.andThen_ok]
      cases d <;> first | rfl | exact absurd ⟨_, rfl⟩ hd
end Go.Vx
