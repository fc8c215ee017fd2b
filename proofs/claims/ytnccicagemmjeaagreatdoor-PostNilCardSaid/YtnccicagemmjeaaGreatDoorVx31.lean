/- The abstract executor: regions that draw their order: names outside; the run of one order, step by step. -/
import Derived.Test.YtnccicagemmjeaaGreatDoorVx30
namespace Go.Vx

/-! ### Names outside -/
structure Ren.out (lo hi : Nat) (m m' : Ren) : Prop where
  blk : ∀ b, b < lo ∨ hi ≤ b → m'.blk b = m.blk b
  sh : ∀ b, b < lo ∨ hi ≤ b → m'.sh b = m.sh b
  cap : ∀ b, b < lo ∨ hi ≤ b → m'.cap b = m.cap b
  ρ : m'.ρ = m.ρ
theorem Ren.out.agree {lo hi : Nat} {m m' : Ren} (h : m.out lo hi m') {n : Nat} (hn : n ≤ lo) : m.agree m' n :=
  ⟨fun b hb => h.blk b (.inl (by omega)), fun b hb => h.sh b (.inl (by omega)), fun b hb => h.cap b (.inl (by omega)), h.ρ⟩
theorem outB_eq {lo hi b : Nat} (h : outB lo hi b = true) : b < lo ∨ hi ≤ b := by
  unfold outB at h
  rw [Bool.or_eq_true, Nat.ble_eq, Nat.ble_eq] at h
  exact h
theorem avLeaf_val {lo : Nat} {hi : Nat} {m : Ren} {m' : Ren} (h : m.out lo hi m') (v : AV) (hv : avLeaf lo hi v = true) : v.val m' = v.val m := by
  cases v with
  | ptr b o => have := outB_eq hv; simp only [AV.val, h.blk b this, h.sh b this]
  | slc b o n c => have := outB_eq hv; simp only [AV.val, h.blk b this, h.sh b this, h.cap b this]
  | mp r => have := outB_eq hv; simp only [AV.val, h.blk r this]
  | sym k e => simp only [AV.val, h.ρ]
  | oth o =>
    cases o with
    | yld l => have := outB_eq hv; simp only [AV.val, OAV.val, h.blk l this]
    | emp b o d a z => have := outB_eq hv; simp only [AV.val, OAV.val, h.blk b this, h.sh b this, h.cap b this]
  | bool b => rfl
  | int k n => rfl
  | str s => rfl
  | nil k => rfl
  | _ => cases hv
theorem allV_val {lo : Nat} {hi : Nat} {m : Ren} {m' : Ren} (_h : m.out lo hi m') {p : AV → Bool} (hp : ∀ v, p v = true → v.val m' = v.val m) : ∀ l : List AV, allV p l = true → valL m' l = valL m l := by
  intro l
  induction l with
  | nil => intro _; rfl
  | cons v l ih =>
    intro hl
    have hl : (p v && allV p l) = true := hl
    rw [Bool.and_eq_true] at hl
    simp only [valL, hp v hl.1, ih hl.2]
theorem avNext_val {lo : Nat} {hi : Nat} {m : Ren} {m' : Ren} (h : m.out lo hi m') {p : AV → Bool} (hp : ∀ v, p v = true → v.val m' = v.val m) (v : AV) (hv : avNext lo hi p v = true) : v.val m' = v.val m := by
  cases v with
  | agg l => simp only [AV.val, allV_val h hp l hv]
  | tup l => simp only [AV.val, allV_val h hp l hv]
  | fn f a b =>
    have hv : (allV p a && allV p b) = true := hv
    rw [Bool.and_eq_true] at hv
    simp only [AV.val, allV_val h hp a hv.1, allV_val h hp b hv.2]
  | ifc t v => simp only [AV.val, hp v hv]
  | _ => exact avLeaf_val h _ hv
theorem avOut_val {lo : Nat} {hi : Nat} {m : Ren} {m' : Ren} (h : m.out lo hi m') (v : AV) (hv : avOut lo hi v = true) : v.val m' = v.val m :=
  avNext_val h (avNext_val h (avNext_val h (avLeaf_val h))) v hv
theorem hoOut_rel {lo : Nat} {hi : Nat} {m : Ren} {m' : Ren} (h : m.out lo hi m') {h0 h1 : Array Obj} {b : Nat} {o : HO} (ho : hoOut lo hi o = true) (hb : b < lo ∨ hi ≤ b) (hh : h1[m.blk b]? = h0[m.blk b]?) (hr : o.rel m h0 b) : o.rel m' h1 b := by
  have eb := h.blk b hb
  cases o with
  | row cells es g p =>
    obtain ⟨c, el, fz, hc, k1, k2, k3, k4⟩ := hr
    refine ⟨c, el, fz, by rw [eb, hh]; exact hc, k1, by rw [h.sh b hb, h.cap b hb]; exact k2, by rw [h.cap b hb]; exact k3, fun i v hv => ?_⟩
    rw [h.sh b hb]
    have : v.val m' = v.val m := by
      have hall : allV (avOut lo hi) cells = true := ho
      have hmem := List.mem_of_getElem? hv
      clear hv k4 k3 hc ho hh
      induction cells with
      | nil => cases hmem
      | cons x l ih =>
        have hall : (avOut lo hi x && allV (avOut lo hi) l) = true := hall
        rw [Bool.and_eq_true] at hall
        rcases List.mem_cons.1 hmem with rfl | hmem
        · exact avOut_val h _ hall.1
        · exact ih hall.2 hmem
    rw [this]
    exact k4 i v hv
  | mapo es c =>
    cases es with
    | nil =>
      show h1[m'.blk b]? = some (.map ([].map (ME.ent m')).toArray c)
      rw [eb, hh]; exact hr
    | cons x l => cases ho
  | _ => cases ho

/-! ### The run of one order -/
structure Ent where
  i : Nat
  o : Oper
  c : Cx
  l : List AV
  tm : Tm
  s : St
  sn : List Sn
  v : AV
  s' : St
noncomputable def Ent.want (ops : List Oper) (e : Ent) : Bool := (wantedA e.c ops e.o).f e.l e.tm
def Ent.eff (ops : List Oper) (e : Ent) : Prop := e.want ops = true ∧ isE e.o.op = true
def EffFact (E : Env) (e : Ent) : Prop := ∀ m w (a : Act) (ro : Option Nat) (n : Nat) (next : Act → World → Prop) (Q : Exit → Act → World → Prop), Rel m e.s w.heap → FactsOk E m.ρ → ArgsWf e.c e.l e.tm e.s.nx → ArgsVal e.c e.l e.tm m a.eval →
  (∀ m' w', Rel m' e.s' w'.heap → Grow m e.s w m' e.s' w' → e.v.wf e.s'.nx → e.s'.df = e.s.df → next (a.put e.o.dst (e.v.val m')) w') → e.o.wpIn (FW ro) n E.P a w next Q
def QuietFact (E : Env) (fs : List Foot) (e : Ent) : Prop := StWf e.s → ArgsWf e.c e.l e.tm e.s.nx → e.v.wf e.s'.nx ∧ ∀ m w ρ, FactsOk E m.ρ → ArgsVal e.c e.l e.tm m ρ → (∀ f ∈ fs, FootOk E m w e.s f) → PureOut E.P m e.s w (execOp ρ e.o) e.v e.s'
/-- an operation that the executor takes -/
structure Sup (o : Op) : Prop where
  ops : ∀ x ∈ o.operands, x ∈ opL o
  sel : ∀ cs b, o ≠ .select cs b
  dfr : ∀ c, o ≠ .defer c
inductive StepFact (E : Env) (ops : List Oper) (anc : List Nat) (e : Ent) : Prop
  | skip (hw : e.want ops = false) (hv : e.v = undefA) (hs : e.s' = e.s)
  | eff (hw : e.want ops = true) (hi : isE e.o.op = true) (hs : Sup e.o.op) (h : EffFact E e)
  | quiet (hw : e.want ops = true) (hi : isE e.o.op = false) (fs : List Foot) (hfs : (footOf E e.c e.o.op).f e.l e.tm = some fs) (hsn : snOk E (ancAt anc e.i) e.s e.s' fs e.v e.sn = true) (h : QuietFact E fs e)
structure EntOk (E : Env) (ops : List Oper) (anc : List Nat) (e : Ent) : Prop where
  op : ops[e.i]? = some e.o
  oks : okOs e.c (opL e.o.op) = true
  okg : okGuard e.c ops e.o = true
  fact : StepFact E ops anc e
noncomputable def snNext (ops : List Oper) (e : Ent) : List Sn :=
  if e.want ops = true then (if isE e.o.op = true then ⟨e.i, e.s.nx, e.s'.nx, true, e.s.hp, e.s'.hp⟩ :: e.sn else if e.s'.nx = e.s.nx then e.sn else ⟨e.i, e.s.nx, e.s'.nx, false, .nil, .nil⟩ :: e.sn) else e.sn
def Chain (E : Env) (N : Nat) (ops : List Oper) (anc : List Nat) : List Ent → Cx → List AV → Tm → St → List Sn → Tm → St → Prop
  | [], _, _, tm, s, _, tmF, sF => tmF = tm ∧ sF = s
  | e :: es, c, l, tm, s, sn, tmF, sF => (e.c = c ∧ e.l = l ∧ e.tm = tm ∧ e.s = s ∧ e.sn = sn) ∧ EntOk E ops anc e ∧ match slotOf c N e.o.dst with
    | .no => Chain E N ops anc es c l tm e.s' (snNext ops e) tmF sF
    | .loc d => Chain E N ops anc es ⟨c.G, d :: c.ds⟩ (e.v :: l) tm e.s' (snNext ops e) tmF sF
    | .glb d => Chain E N ops anc es c l (tm.set d e.v) e.s' (snNext ops e) tmF sF
    | .bad => False
theorem runO_eq (o : ORun) (sl : Slot) (nx : RRun) (w : Way) (l : List AV) (tm : Tm) (s : St) (k : Tm → St → Out) : (runO o sl nx).f w l tm s k = match sl with
    | .no => o.f w l tm s fun _ s' => nx.f w l tm s' k
    | .loc _ => o.f w l tm s fun v s' => nx.f w (v :: l) tm s' k
    | .glb d => o.f w l tm s fun v s' => nx.f w l (tm.set d v) s' k
    | .bad => .fail := by cases sl <;> rfl
/-- an operation that the executor takes: its operands -/
theorem operands_sup {E : Env} (_hE : EnvOk E) {c : Cx} (o : Op) : hop E c o = failO ∨ Sup o := by
  have part : ∀ l : List (Nat × Operand), partL l = l.map (·.2) := fun l => by induction l with | nil => rfl | cons p l ih => simp [partL, ih]
  cases o <;> try (exact .inl rfl)
  case call cl =>
    cases hc : cl.callee with
    | invoke r n => left; show callOp E c cl = _; unfold callOp; rw [hc]
    | builtin b =>
      right
      refine ⟨fun x hx => ?_, (fun _ _ h => by cases h), (fun _ h => by cases h)⟩
      have e : opL (.call cl) = cl.args.toList := by show (match cl.callee with | .value f => f :: cl.args.toList | _ => cl.args.toList) = _; rw [hc]
      rw [e]
      simp only [Op.operands, Call.operands, hc] at hx
      simpa using hx
    | value f =>
      right
      refine ⟨fun x hx => ?_, (fun _ _ h => by cases h), (fun _ h => by cases h)⟩
      have e : opL (.call cl) = f :: cl.args.toList := by show (match cl.callee with | .value f => f :: cl.args.toList | _ => cl.args.toList) = _; rw [hc]
      rw [e]
      simp only [Op.operands, Call.operands, hc] at hx
      simpa using hx
  case build t ps => exact .inr ⟨fun x hx => (by show x ∈ partL ps.toList; rw [part]; simpa [Op.operands] using hx), (fun _ _ h => by cases h), (fun _ h => by cases h)⟩
  case buildSlice t n ps => exact .inr ⟨fun x hx => (by show x ∈ partL ps.toList; rw [part]; simpa [Op.operands] using hx), (fun _ _ h => by cases h), (fun _ h => by cases h)⟩
  case makeFunc f a b => exact .inr ⟨fun x hx => (by show x ∈ appL a.toList b.toList; rw [appL_eq]; simpa [Op.operands] using hx), (fun _ _ h => by cases h), (fun _ h => by cases h)⟩
  case alloc t => exact .inr ⟨fun x hx => (by simp [Op.operands] at hx), (fun _ _ h => by cases h), (fun _ h => by cases h)⟩
  case makeMap t r =>
    refine .inr ⟨fun x hx => ?_, (fun _ _ h => by cases h), (fun _ h => by cases h)⟩
    cases r with
    | none => simp [Op.operands] at hx
    | some y => show x ∈ optL (some y) []; simpa [Op.operands, optL] using hx
  case slice t y l h m => exact .inr ⟨fun x hx => (by show x ∈ y :: optL l (optL h (optL m [])); cases l <;> cases h <;> cases m <;> simpa [Op.operands, optL] using hx), (fun _ _ h => by cases h), (fun _ h => by cases h)⟩
  all_goals (exact .inr ⟨fun x hx => (by simpa [Op.operands, opL] using hx), (fun _ _ h => by cases h), (fun _ h => by cases h)⟩)
/-- what an operation does, whatever stands behind -/
def Runs (o : ORun) (way : Way) (l : List AV) (tm : Tm) (s : St) (R : AV → St → Prop) : Prop := ∀ k, o.f way l tm s k = .fail ∨ ∃ v s', o.f way l tm s k = k v s' ∧ R v s'
theorem runD_trace {E : Env} (hE : EnvOk E) {way : Way} (hW : WayOk E way) (N : Nat) (anc : List Nat) (ops : List Oper) : ∀ (pl : List Nat) (c : Cx) (l : List AV) (tm : Tm) (s : St) (sn : List Sn) (k : Tm → St → Out), (runD E anc N ops pl c).f way l tm s sn k ≠ .fail →
    ∃ es tmF sF, es.map Ent.i = pl ∧ Chain E N ops anc es c l tm s sn tmF sF ∧ (runD E anc N ops pl c).f way l tm s sn k = k tmF sF := by
  intro pl
  induction pl with
  | nil => intro c l tm s sn k h; exact ⟨[], tm, s, rfl, ⟨rfl, rfl⟩, rfl⟩
  | cons i pl ih =>
    intro c l tm s sn k h
    have e : runD E anc N ops (i :: pl) c = match nth ops i with
      | none => ⟨fun _ _ _ _ _ _ => .fail⟩
      | some o => stepD E (ancAt anc i) c ops i o (slotOf c N o.dst) (runD E anc N ops pl (cxOf c (slotOf c N o.dst))) := rfl
    rw [e] at h ⊢
    rw [nth_eq] at h ⊢
    cases ho : ops[i]? with
    | none => rw [ho] at h; exact absurd rfl h
    | some o =>
      rw [ho] at h
      simp only at h ⊢
      unfold stepD at h ⊢
      cases hok : (okOs c (opL o.op) && okGuard c ops o) with
      | false => rw [hok] at h; exact absurd rfl h
      | true =>
        rw [hok] at h
        rw [Bool.and_eq_true] at hok
        simp only [cond_true] at h ⊢
        rw [recB] at h ⊢
        -- from one step on
        have go : ∀ (oo : ORun) (snN : AV → St → List Sn) (R : AV → St → Prop) (X : Out), X = (runO oo (slotOf c N o.dst) ⟨fun w l tm s' k => (runD E anc N ops pl (cxOf c (slotOf c N o.dst))).f w l tm s' (snN undefA s') k⟩).f way l tm s k → Runs oo way l tm s R →
            (∀ v s', R v s' → EntOk E ops anc ⟨i, o, c, l, tm, s, sn, v, s'⟩ ∧ snNext ops ⟨i, o, c, l, tm, s, sn, v, s'⟩ = snN undefA s') → X ≠ .fail →
            ∃ es tmF sF, es.map Ent.i = i :: pl ∧ Chain E N ops anc es c l tm s sn tmF sF ∧ X = k tmF sF := by
          intro oo snN R X hX hR hOk hne
          rw [runO_eq] at hX
          cases hsl : slotOf c N o.dst with
          | bad => rw [hsl] at hX; exact absurd hX hne
          | no =>
            rw [hsl] at hX
            simp only at hX
            rcases hR (fun _ s' => (runD E anc N ops pl (cxOf c .no)).f way l tm s' (snN undefA s') k) with h1 | ⟨v, s', h1, h2⟩
            · exact absurd (hX.trans h1) hne
            · rw [h1] at hX
              obtain ⟨k1, k2⟩ := hOk v s' h2
              obtain ⟨es, tmF, sF, e1, e2, e3⟩ := ih c l tm s' (snN undefA s') k (by rw [← show _ = (runD E anc N ops pl c).f way l tm s' (snN undefA s') k from hX]; exact hne)
              refine ⟨⟨i, o, c, l, tm, s, sn, v, s'⟩ :: es, tmF, sF, by simp [e1], ⟨⟨rfl, rfl, rfl, rfl, rfl⟩, k1, ?_⟩, hX.trans e3⟩
              simp only [hsl]
              rw [k2]; exact e2
          | loc d =>
            rw [hsl] at hX
            simp only at hX
            rcases hR (fun v s' => (runD E anc N ops pl (cxOf c (.loc d))).f way (v :: l) tm s' (snN undefA s') k) with h1 | ⟨v, s', h1, h2⟩
            · exact absurd (hX.trans h1) hne
            · rw [h1] at hX
              obtain ⟨k1, k2⟩ := hOk v s' h2
              obtain ⟨es, tmF, sF, e1, e2, e3⟩ := ih ⟨c.G, d :: c.ds⟩ (v :: l) tm s' (snN undefA s') k (by rw [← show _ = (runD E anc N ops pl ⟨c.G, d :: c.ds⟩).f way (v :: l) tm s' (snN undefA s') k from hX]; exact hne)
              refine ⟨⟨i, o, c, l, tm, s, sn, v, s'⟩ :: es, tmF, sF, by simp [e1], ⟨⟨rfl, rfl, rfl, rfl, rfl⟩, k1, ?_⟩, hX.trans e3⟩
              simp only [hsl]
              rw [k2]; exact e2
          | glb d =>
            rw [hsl] at hX
            simp only at hX
            rcases hR (fun v s' => (runD E anc N ops pl (cxOf c (.glb d))).f way l (tm.set d v) s' (snN undefA s') k) with h1 | ⟨v, s', h1, h2⟩
            · exact absurd (hX.trans h1) hne
            · rw [h1] at hX
              obtain ⟨k1, k2⟩ := hOk v s' h2
              obtain ⟨es, tmF, sF, e1, e2, e3⟩ := ih c l (tm.set d v) s' (snN undefA s') k (by rw [← show _ = (runD E anc N ops pl c).f way l (tm.set d v) s' (snN undefA s') k from hX]; exact hne)
              refine ⟨⟨i, o, c, l, tm, s, sn, v, s'⟩ :: es, tmF, sF, by simp [e1], ⟨⟨rfl, rfl, rfl, rfl, rfl⟩, k1, ?_⟩, hX.trans e3⟩
              simp only [hsl]
              rw [k2]; exact e2
        cases hwant : (wantedA c ops o).f l tm with
        | false =>
          rw [hwant] at h
          simp only [Bool.false_eq_true, if_false] at h ⊢
          refine go ⟨fun _ _ _ s k => k undefA s⟩ (fun _ _ => sn) (fun v s' => v = undefA ∧ s' = s) _ rfl (fun k => .inr ⟨undefA, s, rfl, rfl, rfl⟩) ?_ h
          rintro v s' ⟨rfl, rfl⟩
          exact ⟨⟨ho, hok.1, hok.2, .skip hwant rfl rfl⟩, by unfold snNext Ent.want; rw [hwant]; rfl⟩
        | true =>
          rw [hwant] at h
          simp only [if_true] at h ⊢
          cases hi : isE o.op with
          | true =>
            rw [hi] at h
            simp only [cond_true] at h ⊢
            refine go (hop E c o.op) (fun _ s' => ⟨i, s.nx, s'.nx, true, s.hp, s'.hp⟩ :: sn) (fun v s' => Sup o.op ∧ EffFact E ⟨i, o, c, l, tm, s, sn, v, s'⟩) _ rfl (fun k => ?_) ?_ h
            · rcases op_wp hE c o.op o rfl hok.1 way hW l tm s k with h1 | ⟨v, s', h1, h2⟩
              · exact .inl h1
              · rcases operands_sup hE (c := c) o.op with h3 | h3
                · exact .inl (by rw [h3]; rfl)
                · exact .inr ⟨v, s', h1 k, h3, h2⟩
            · rintro v s' ⟨hs, hf⟩
              exact ⟨⟨ho, hok.1, hok.2, .eff hwant hi hs hf⟩, by unfold snNext Ent.want; simp only [hwant, if_true, hi]⟩
          | false =>
            rw [hi] at h
            simp only [cond_false] at h ⊢
            unfold stepN at h ⊢
            simp only at h ⊢
            rw [recO] at h ⊢
            cases hfs : (footOf E c o.op).f l tm with
            | none => rw [hfs] at h; exact absurd rfl h
            | some fs =>
              rw [hfs] at h
              simp only at h ⊢
              refine go (chkO E (ancAt anc i) fs sn (hop E c o.op)) (fun _ s' => Bool.rec (motive := fun _ => List Sn) (⟨i, s.nx, s'.nx, false, .nil, .nil⟩ :: sn) sn (Nat.beq s'.nx s.nx)) (fun v s' => snOk E (ancAt anc i) s s' fs v sn = true ∧ QuietFact E fs ⟨i, o, c, l, tm, s, sn, v, s'⟩) _ rfl (fun k => ?_) ?_ h
              · have e1 : (chkO E (ancAt anc i) fs sn (hop E c o.op)).f way l tm s k = (hop E c o.op).f way l tm s fun v s' => Bool.rec (motive := fun _ => Out) .fail (k v s') (snOk E (ancAt anc i) s s' fs v sn) := rfl
                rw [e1]
                rcases op_pure hE c o.op hi o rfl hok.1 way l tm s (fun v s' => Bool.rec (motive := fun _ => Out) .fail (k v s') (snOk E (ancAt anc i) s s' fs v sn)) with h1 | ⟨v, s', h1, h2⟩
                · exact .inl h1
                · rw [h1]
                  cases hsn : snOk E (ancAt anc i) s s' fs v sn with
                  | false => exact .inl rfl
                  | true =>
                    refine .inr ⟨v, s', rfl, hsn, fun hS hA => ?_⟩
                    obtain ⟨g1, g2⟩ := h2 hS hA
                    refine ⟨g1, fun m w ρ hf ha hfo => g2 m w ρ hf ha fun fs' hfs' => ?_⟩
                    have hfs' : (footOf E c o.op).f l tm = some fs' := hfs'
                    rw [hfs] at hfs'
                    cases hfs'
                    exact hfo
              · rintro v s' ⟨hsn, hq⟩
                refine ⟨⟨ho, hok.1, hok.2, .quiet hwant hi fs hfs hsn hq⟩, ?_⟩
                unfold snNext Ent.want
                simp only [hwant, if_true, hi, Bool.false_eq_true, if_false]
                rw [recB]
                by_cases hn : s'.nx = s.nx
                · rw [if_pos hn, if_pos (by rw [hn]; exact Nat.beq_refl _)]
                · rw [if_neg hn, if_neg (by rw [beq_ne hn]; simp)]
end Go.Vx
