/- The abstract executor: look-ups, lengths, new objects; all operations that turn no object. -/
import Derived.Test.YtnccicagemmjeaaGreatDoorVx13
namespace Go.Vx

/-! ### Maps, read -/
theorem mapOf_wf {E : Env} (_hE : EnvOk E) {s : St} (hS : StWf s) {x : AV} {es : List ME} (h : mapOf s x = some es) : ∀ e ∈ es, e.key.wf s.nx ∧ e.val.wf s.nx := by
  unfold mapOf at h
  split at h
  · cases h; exact fun e he => by cases he
  · rename_i r
    split at h
    · rename_i es' clock hb
      cases h
      have : s.hp.get r = some (.mapo es clock) := by
        unfold St.obj at hb
        cases hg : s.hp.get r with
        | none => rw [hg] at hb; cases hb
        | some o => rw [hg] at hb; simp only [Option.getD_some] at hb; rw [hb]
      exact hS r _ this
    · cases h
  · cases h
theorem findK_mem {E : Env} (_hE : EnvOk E) {kt : TypeId} {k : AV} : ∀ (es : List ME) (i : Nat) {j : Nat} {v : AV}, findK E kt k es i = some (some (j, v)) → ∃ e ∈ es, e.val = v := by
  intro es
  induction es with
  | nil => intro i j v h; cases h
  | cons e es ih =>
    intro i j v h
    unfold findK at h
    split at h
    · cases h; exact ⟨e, by simp, rfl⟩
    · obtain ⟨e', he', hv⟩ := ih _ h; exact ⟨e', by simp [he'], hv⟩
    · cases h
theorem okPair_wf {E : Env} (_hE : EnvOk E) {n : Nat} {ok b : Bool} {v : AV} (h : v.wf n) : (okPair ok v b).wf n := by
  cases ok
  · exact h
  · exact ⟨h, trivial, trivial⟩
theorem okPair_val {E : Env} (_hE : EnvOk E) (m : Ren) (ok b : Bool) (v : AV) : (okPair ok v b).val m = if ok then .tuple #[v.val m, .bool b] else v.val m := by cases ok <;> rfl
theorem zeroT_wf {E : Env} (hE : EnvOk E) {t : TypeId} {z : AV} (h : zeroT E.T t = some z) (n : Nat) : z.wf n := by
  obtain ⟨i, v, _, _, hz⟩ := zeroT_eq hE h
  exact (hz ⟨fun _ => 0, fun _ => 0, fun _ => 0, fun _ => 0⟩ n).2
theorem lookupA_wf {E : Env} (hE : EnvOk E) {s : St} (hS : StWf s) {t : TypeId} {x i v : AV} {ok : Bool} (h : lookupA E t x i ok s = some v) : v.wf s.nx := by
  unfold lookupA at h
  split at h
  · split at h
    · rename_i es hes
      cases hk : keyOk E _ i
      · rw [hk] at h; cases h
      · rw [hk] at h
        simp only [cond_true] at h
        split at h
        · rename_i j v' hf
          cases h
          obtain ⟨e, he, hv⟩ := findK_mem hE es 0 hf
          exact okPair_wf hE (hv ▸ (mapOf_wf hE hS hes e he).2)
        · rw [Option.map_eq_some_iff] at h
          obtain ⟨z, hz, rfl⟩ := h
          exact okPair_wf hE (zeroT_wf hE hz _)
        · cases h
    · cases h
  · cases h
theorem pure_lookup {E : Env} (hE : EnvOk E) (c : Cx) (t : TypeId) (x i : Operand) (ok : Bool) : OpPure E c (.lookup t x i ok) :=
  pure_v (fun l tm s => lookupA E t ((ev c x).f l tm) ((ev c i).f l tm) ok s) rfl fun oper ho hok l tm s v hv hS hw => by
    have hx := ok1 hE c hok
    have hi := ok2 hE c hok
    refine ⟨lookupA_wf hE hS hv, fun m w ρ hf ha hfo => ?_⟩
    unfold execOp; rw [ho]; simp only
    refine exec_v ?_
    rw [ha.val x hx, ha.val i hi]
    exact hfo [.look t ((ev c x).f l tm) ((ev c i).f l tm) ok] rfl (.look t ((ev c x).f l tm) ((ev c i).f l tm) ok) (List.mem_singleton.2 rfl) v hv

/-! ### Built-in functions that only read -/
theorem exec_builtin {E : Env} (_hE : EnvOk E) {oper : Oper} {cl : Call} {b : Builtin} (ho : oper.op = .call cl) (hc : cl.callee = .builtin b) (ρ : Operand → Value) (w : World) :
    (execOp ρ oper).run E.P w = (builtin b cl.argTypes oper.type (cl.args.map fun | .const _ => true | _ => false) (cl.args.map ρ)).run E.P w := by
  unfold execOp; rw [ho]
  simp only [resolve, hc, pure_bind, invoke]
  rfl
theorem args_eq {E : Env} (_hE : EnvOk E) (c : Cx) {l : List AV} {tm : Tm} {m : Ren} {ρ : Operand → Value} (ha : ArgsVal c l tm m ρ) (cl : Call) (hok : okOs c cl.args.toList = true) : cl.args.map ρ = (valL m ((evL c cl.args.toList).f l tm)).toArray := by
  rw [← evL_val ha _ hok]; apply Array.ext'; simp
theorem lenA_run {E : Env} (hE : EnvOk E) {t : TypeId} {x v : AV} {s : St} (h : (lenA E t).f x s = some v) (ts : List TypeId) (ty : TypeId) (m : Ren) (w : World) (hf : ∀ r, x = .mp r → FootOk E m w s (.len r)) :
    (∃ n : Nat, v = goIntA n) ∧ (Builtin.len_ (t :: ts).toArray ty #[x.val m]).run E.P w = .ok (v.val m) w := by
  have e0 : (Builtin.len_ (t :: ts).toArray ty #[x.val m]).run E.P w = ((underlying t).run E.P w).andThen fun d w => (match d, x.val m with
    | .string, .string s => pure (goInt s.size)
    | .array n _, _ => pure (goInt n)
    | .pointer arr, _ => do
      let .array n _ ← underlying arr | stuck "len: pointer to array expected"
      pure (goInt n)
    | .slice _, .slice _ n _ => pure (goInt n)
    | .map _ _, .map none | .chan _ _, .chan none => pure (goInt 0)
    | .map _ _, .map (some r) => do
      let .map entries _ ← getObj r | stuck "len: map expected"
      pure (goInt entries.size)
    | .chan _ _, .chan (some r) => do
      let .chan _ buf _ _ _ timer ← getObj r | stuck "len: channel expected"
      pure (goInt (if timer then 0 else buf.size))
    | _, _ => stuck "len: string, array, pointer to array, slice, map or channel expected" : Sem Value).run E.P w := by
    unfold Builtin.len_
    simp only [List.getElem?_toArray, List.getElem?_cons_zero, Array.getElem?_eq_getElem, List.size_toArray, List.length_cons]
    rw [Sem.run_bind]
    rfl
  rw [e0]
  unfold lenA at h
  split at h
  · rename_i hu
    simp only at h
    split at h
    · cases h
      refine ⟨⟨_, rfl⟩, ?_⟩
      rw [run_undT hE hu]
      simp only [Result.andThen_ok, AV.val, strV, Sem.run_pure, goIntA, goInt, lenL_eq]
      rw [strV_size]; rfl
    · cases h
  · rename_i e hu
    rw [run_undT hE hu]
    simp only at h
    split at h
    · cases h; exact ⟨⟨_, rfl⟩, rfl⟩
    · cases h; exact ⟨⟨_, rfl⟩, rfl⟩
    · cases h; exact ⟨⟨_, rfl⟩, rfl⟩
    · cases h
  · rename_i k e hu
    rw [run_undT hE hu]
    simp only at h
    rw [Option.map_eq_some_iff] at h
    obtain ⟨es, hes, rfl⟩ := h
    refine ⟨⟨_, rfl⟩, ?_⟩
    unfold mapOf at hes
    split at hes
    · cases hes; rfl
    · rename_i r
      split at hes
      · rename_i es' clock hb
        cases hes
        have hg : s.hp.get r = some (.mapo es clock) := by
          unfold St.obj at hb
          cases hg : s.hp.get r with
          | none => rw [hg] at hb; cases hb
          | some o => rw [hg] at hb; simp only [Option.getD_some] at hb; rw [hb]
        obtain ⟨es', clock', h1, h2⟩ := hf r rfl es clock hg
        simp only [Result.andThen_ok, AV.val, Sem.run_bind, getObj, Sem.run, h1, Sem.run_pure, goIntA, goInt, lenL_eq, h2]
        rfl
      · cases hes
    · cases hes
  · cases h
theorem capA_run {E : Env} (hE : EnvOk E) {t : TypeId} {x v : AV} (h : capA E t x = some v) (ts : List TypeId) (ty : TypeId) (m : Ren) (w : World) :
    (∃ n : Nat, v = goIntA n) ∧ (Builtin.cap_ (t :: ts).toArray ty #[x.val m]).run E.P w = .ok (v.val m) w := by
  unfold capA at h
  split at h
  · rename_i e hu
    have e0 : ∀ a n k, (Builtin.cap_ (t :: ts).toArray ty #[.slice a n k]).run E.P w = .ok (goInt k) w := by
      intro a n k
      unfold Builtin.cap_
      simp only [List.getElem?_toArray, List.getElem?_cons_zero]
      simp only [Sem.run_bind, run_undT hE hu, Result.andThen_ok, Sem.run_pure]
    split at h
    · cases h; exact ⟨⟨_, rfl⟩, e0 _ _ _⟩
    · cases h; exact ⟨⟨_, rfl⟩, e0 _ _ _⟩
    · cases h
  · cases h
theorem maxI_run {E : Env} (_hE : EnvOk E) (m : Ren) (k : IntKind) : ∀ (l : List AV) (n : Int) (v : AV), maxI k n l = some v → (∃ n, v = .int k n) ∧ ∀ w, ((valL m l).foldlM Builtin.max2 (.int k n)).run E.P w = .ok (v.val m) w := by
  intro l
  induction l with
  | nil => intro n v h; cases h; exact ⟨⟨_, rfl⟩, fun w => rfl⟩
  | cons x l ih =>
    intro n v h
    cases x with
    | int j z =>
      have h : cond (eqK j k) (maxI k (cond (ilt n z) z n) l) none = some v := h
      cases hk : eqK j k
      · rw [hk] at h; cases h
      · rw [hk] at h
        obtain ⟨h1, h2⟩ := ih _ _ h
        refine ⟨h1, fun w => ?_⟩
        simp only [valL, AV.val, List.foldlM_cons, Sem.run_bind, Builtin.max2, Sem.run_pure, Result.andThen_ok]
        rw [← h2 w, ilt_eq]
        by_cases hz : z > n
        · rw [if_pos hz, decide_eq_true hz]; rfl
        · rw [if_neg hz, decide_eq_false hz]; rfl
    | _ => cases h
theorem minI_run {E : Env} (_hE : EnvOk E) (m : Ren) (k : IntKind) : ∀ (l : List AV) (n : Int) (v : AV), minI k n l = some v → (∃ n, v = .int k n) ∧ ∀ w, ((valL m l).foldlM Builtin.min2 (.int k n)).run E.P w = .ok (v.val m) w := by
  intro l
  induction l with
  | nil => intro n v h; cases h; exact ⟨⟨_, rfl⟩, fun w => rfl⟩
  | cons x l ih =>
    intro n v h
    cases x with
    | int j z =>
      have h : cond (eqK j k) (minI k (cond (ilt z n) z n) l) none = some v := h
      cases hk : eqK j k
      · rw [hk] at h; cases h
      · rw [hk] at h
        obtain ⟨h1, h2⟩ := ih _ _ h
        refine ⟨h1, fun w => ?_⟩
        simp only [valL, AV.val, List.foldlM_cons, Sem.run_bind, Builtin.min2, Sem.run_pure, Result.andThen_ok]
        rw [← h2 w, ilt_eq]
        by_cases hz : z < n
        · rw [if_pos hz, decide_eq_true hz]; rfl
        · rw [if_neg hz, decide_eq_false hz]; rfl
    | _ => cases h
theorem maxA_run {E : Env} (hE : EnvOk E) {isMax : Bool} {l : List AV} {v : AV} (h : maxA isMax l = some v) (m : Ren) (ts : Array TypeId) (ty : TypeId) (w : World) :
    (∃ k n, v = .int k n) ∧ (cond isMax (Builtin.max_ ts ty (valL m l).toArray) (Builtin.min_ ts ty (valL m l).toArray)).run E.P w = .ok (v.val m) w := by
  cases l with
  | nil => cases h
  | cons x l =>
    cases x with
    | int k n =>
      have h : cond isMax (maxI k n l) (minI k n l) = some v := h
      cases isMax
      · obtain ⟨h1, h2⟩ := minI_run hE m k l n v h
        exact ⟨⟨k, h1⟩, h2 w⟩
      · obtain ⟨h1, h2⟩ := maxI_run hE m k l n v h
        exact ⟨⟨k, h1⟩, h2 w⟩
    | _ => cases h
theorem goIntA_wf {E : Env} (_hE : EnvOk E) (n k : Nat) : (goIntA k).wf n := trivial
theorem pure_builtin {E : Env} (hE : EnvOk E) (c : Cx) (cl : Call) (b : Builtin) (hc : cl.callee = .builtin b) (hb : isE (.call cl) = false) : OpPure E c (.call cl) := by
  have hh : hop E c (.call cl) = biA E c b cl.argTypes.toList cl.args.toList := by show callOp E c cl = _; unfold callOp; rw [hc]
  have hopL : opL (.call cl) = cl.args.toList := by show (match cl.callee with | .value f => f :: cl.args.toList | _ => cl.args.toList) = _; rw [hc]
  have hfoot : ∀ l tm, (footOf E c (.call cl)).f l tm = match (evL c cl.args.toList).f l tm with | [.mp r] => some [.len r] | _ => some [] := fun _ _ => rfl
  have nargs : ∀ (l : List AV) (tm : Tm) (m : Ren) (ρ : Operand → Value), ArgsVal c l tm m ρ → okOs c (opL (.call cl)) = true → cl.args.map ρ = (valL m ((evL c cl.args.toList).f l tm)).toArray :=
    fun l tm m ρ ha hok => args_eq hE c ha cl (hopL ▸ hok)
  have maxes : ∀ (isMax : Bool), (b = cond isMax .max .min) → ∀ (vf : List AV → Tm → List AV), (∀ l tm, vf l tm = (evL c cl.args.toList).f l tm) → hop E c (.call cl) = vO (fun l tm _ => maxA isMax (vf l tm)) → OpPure E c (.call cl) := by
    intro isMax hbm vf hvf hh
    refine pure_v _ hh fun oper ho hok l tm s v hv hS hw => ?_
    obtain ⟨⟨k, n, rfl⟩, _⟩ := maxA_run hE hv ⟨fun _ => 0, fun _ => 0, fun _ => 0, fun _ => 0⟩ #[] 0 default
    refine ⟨trivial, fun m w ρ hf ha hfo => ?_⟩
    rw [exec_builtin hE ho hc, nargs l tm m ρ ha hok, ← hvf]
    have := (maxA_run hE hv m cl.argTypes oper.type w).2
    cases isMax
    · subst hbm
      simp only [cond_false, builtin] at this ⊢
      exact exec_v this
    · subst hbm
      simp only [cond_true, builtin] at this ⊢
      exact exec_v this
  have one : ∀ (x : Operand) (t : TypeId) (ts : List TypeId), cl.args.toList = [x] → cl.argTypes.toList = t :: ts → ∀ (l : List AV) (tm : Tm) (m : Ren) (ρ : Operand → Value), ArgsVal c l tm m ρ → okOs c (opL (.call cl)) = true →
      cl.args.map ρ = #[((ev c x).f l tm).val m] ∧ cl.argTypes = (t :: ts).toArray := by
    intro x t ts h1 h2 l tm m ρ ha hok
    refine ⟨?_, by rw [← h2]⟩
    rw [nargs l tm m ρ ha hok, h1]; rfl
  have lens : ∀ (x : Operand) (t : TypeId) (ts : List TypeId), cl.args.toList = [x] → cl.argTypes.toList = t :: ts → hop E c (.call cl) = (vO fun l tm s => (lenA E t).f ((ev c x).f l tm) s) → b = .len → OpPure E c (.call cl) := by
    intro x t ts h1 h2 hh hbl
    refine pure_v _ hh fun oper ho hok l tm s v hv hS hw => ?_
    refine ⟨?_, fun m w ρ hf ha hfo => ?_⟩
    · have : v.wf s.nx := by
        unfold lenA at hv
        split at hv
        · simp only at hv; split at hv <;> cases hv; trivial
        · simp only at hv; split at hv <;> cases hv <;> trivial
        · simp only at hv
          rw [Option.map_eq_some_iff] at hv
          obtain ⟨es, _, rfl⟩ := hv
          trivial
        · cases hv
      exact this
    · rw [exec_builtin hE ho hc, (one x t ts h1 h2 l tm m ρ ha hok).1, (one x t ts h1 h2 l tm m ρ ha hok).2, hbl]
      refine exec_v ((lenA_run hE hv ts oper.type m w fun r he => ?_).2)
      refine hfo [.len r] ?_ (.len r) (List.mem_singleton.2 rfl)
      rw [hfoot, h1]
      show (match [(ev c x).f l tm] with | [.mp r] => some [Foot.len r] | _ => some []) = _
      rw [he]
  have caps : ∀ (x : Operand) (t : TypeId) (ts : List TypeId), cl.args.toList = [x] → cl.argTypes.toList = t :: ts → hop E c (.call cl) = (vO fun l tm _ => capA E t ((ev c x).f l tm)) → b = .cap → OpPure E c (.call cl) := by
    intro x t ts h1 h2 hh hbl
    refine pure_v _ hh fun oper ho hok l tm s v hv hS hw => ?_
    obtain ⟨⟨n, rfl⟩, _⟩ := capA_run hE hv ts 0 ⟨fun _ => 0, fun _ => 0, fun _ => 0, fun _ => 0⟩ default
    refine ⟨trivial, fun m w ρ hf ha hfo => ?_⟩
    rw [exec_builtin hE ho hc, (one x t ts h1 h2 l tm m ρ ha hok).1, (one x t ts h1 h2 l tm m ρ ha hok).2, hbl]
    exact exec_v (capA_run hE hv ts oper.type m w).2
  have hbs : b = .len ∨ b = .cap ∨ b = .max ∨ b = .min ∨ b = .real ∨ b = .imag ∨ b = .complex := by
    unfold isE at hb
    simp only [hc] at hb
    cases b <;> simp at hb ⊢
  -- by the arguments
  rcases hargs : cl.args.toList with _ | ⟨x, _ | ⟨y, _ | ⟨z, rest⟩⟩⟩ <;> rcases hts : cl.argTypes.toList with _ | ⟨t, _ | ⟨t2, ts⟩⟩ <;> rw [hargs, hts] at hh <;> rcases hbs with rfl | rfl | rfl | rfl | rfl | rfl | rfl <;> try (exact pure_fail hh)
  all_goals try (exact maxes true rfl (fun l tm => (evL c cl.args.toList).f l tm) (fun _ _ => rfl) (by rw [hargs]; exact hh))
  all_goals try (exact maxes false rfl (fun l tm => (evL c cl.args.toList).f l tm) (fun _ _ => rfl) (by rw [hargs]; exact hh))
  all_goals first | exact lens _ _ _ hargs hts hh rfl | exact caps _ _ _ hargs hts hh rfl
end Go.Vx
