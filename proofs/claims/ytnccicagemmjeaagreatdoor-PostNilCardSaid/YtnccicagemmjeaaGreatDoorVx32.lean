/- The abstract executor: regions that draw their order: what one run tells of its steps. -/
import Derived.Test.YtnccicagemmjeaaGreatDoorVx31
namespace Go.Vx

/-! ### What stands of steps that may come ahead -/
structure PairD (E : Env) (ops : List Oper) (anc : List Nat) (r e : Ent) : Prop where
  sn : e.want ops = true → isE e.o.op = false → r.want ops = true → bit (ancAt anc e.i) r.i = false → (isE r.o.op = true ∨ r.s'.nx ≠ r.s.nx) → ∀ fs, (footOf E e.c e.o.op).f e.l e.tm = some fs →
    avOut r.s.nx r.s'.nx e.v = true ∧ (e.s'.nx = e.s.nx ∨ hoOut r.s.nx r.s'.nx (e.s'.obj e.s.nx) = true) ∧ (∀ f ∈ fs, footOut r.s.nx r.s'.nx f = true) ∧ (isE r.o.op = true → ∀ f ∈ fs, footSame E e.s r.s.hp r.s'.hp r.s'.nx f = true)
theorem allFoot_eq {p : Foot → Bool} : ∀ {l : List Foot}, allFoot p l = true → ∀ f ∈ l, p f = true := by
  intro l
  induction l with
  | nil => intro _ f h; cases h
  | cons x l ih =>
    intro h f hf
    have h : (p x && allFoot p l) = true := h
    rw [Bool.and_eq_true] at h
    rcases List.mem_cons.1 hf with rfl | hf
    · exact h.1
    · exact ih h.2 f hf
theorem snOk_mem {E : Env} {a : Nat} {s s' : St} {fs : List Foot} {v : AV} : ∀ {l : List Sn}, snOk E a s s' fs v l = true → ∀ x ∈ l, bit a x.i = true ∨ snOk1 E s s' fs v x = true := by
  intro l
  induction l with
  | nil => intro _ x h; cases h
  | cons y l ih =>
    intro h x hx
    have h : cond (bit a y.i) (snOk E a s s' fs v l) (cond (snOk1 E s s' fs v y) (snOk E a s s' fs v l) false) = true := h
    cases hb : bit a y.i with
    | true =>
      rw [hb] at h
      rcases List.mem_cons.1 hx with rfl | hx
      · exact .inl hb
      · exact ih h x hx
    | false =>
      rw [hb] at h
      simp only [cond_false] at h
      cases hs : snOk1 E s s' fs v y with
      | false => rw [hs] at h; cases h
      | true =>
        rw [hs] at h
        rcases List.mem_cons.1 hx with rfl | hx
        · exact .inr hs
        · exact ih h x hx
theorem snOk1_eq {E : Env} {s s' : St} {fs : List Foot} {v : AV} {x : Sn} (h : snOk1 E s s' fs v x = true) : avOut x.lo x.hi v = true ∧ (s'.nx = s.nx ∨ hoOut x.lo x.hi (s'.obj s.nx) = true) ∧ (∀ f ∈ fs, footOut x.lo x.hi f = true) ∧
    (x.eff = true → ∀ f ∈ fs, footSame E s x.h x.h' x.hi f = true) := by
  unfold snOk1 at h
  simp only [Bool.and_eq_true] at h
  obtain ⟨h1, h2, h3, h4⟩ := h
  refine ⟨h1, ?_, allFoot_eq h3, fun he => ?_⟩
  · cases hb : Nat.beq s'.nx s.nx with
    | true => exact .inl (Nat.eq_of_beq_eq_true hb)
    | false => rw [hb] at h2; exact .inr h2
  · rw [he] at h4; exact allFoot_eq h4
/-- the steps that stand before are told -/
def Told (ops : List Oper) (A : List Ent) (sn : List Sn) : Prop := ∀ r ∈ A, r.want ops = true → (isE r.o.op = true → (⟨r.i, r.s.nx, r.s'.nx, true, r.s.hp, r.s'.hp⟩ : Sn) ∈ sn) ∧ (isE r.o.op = false → r.s'.nx ≠ r.s.nx → (⟨r.i, r.s.nx, r.s'.nx, false, .nil, .nil⟩ : Sn) ∈ sn)
theorem Told.next {ops : List Oper} {A : List Ent} {e : Ent} (h : Told ops A e.sn) : Told ops (A ++ [e]) (snNext ops e) := by
  have sub : ∀ x ∈ e.sn, x ∈ snNext ops e := by
    intro x hx
    unfold snNext
    split
    · split
      · exact List.mem_cons_of_mem _ hx
      · split
        · exact hx
        · exact List.mem_cons_of_mem _ hx
    · exact hx
  intro r hr hw
  rcases List.mem_append.1 hr with hr | hr
  · obtain ⟨h1, h2⟩ := h r hr hw
    exact ⟨fun hi => sub _ (h1 hi), fun hi hn => sub _ (h2 hi hn)⟩
  · rw [List.mem_singleton] at hr
    subst hr
    unfold snNext
    rw [if_pos hw]
    refine ⟨fun hi => ?_, fun hi hn => ?_⟩
    · rw [if_pos hi]; exact List.mem_cons_self
    · rw [if_neg (by rw [hi]; simp), if_neg hn]; exact List.mem_cons_self
/-! ### Temporaries -/
theorem idxOf_succ : ∀ (l : List Nat) (t i : Nat), idxOf l t (i + 1) = (idxOf l t i).map (· + 1) := by
  intro l
  induction l with
  | nil => intro t i; rfl
  | cons d l ih =>
    intro t i
    have e : ∀ i, idxOf (d :: l) t i = Bool.rec (motive := fun _ => Option Nat) (idxOf l t (i + 1)) (some i) (Nat.beq d t) := fun _ => rfl
    rw [e, e]
    cases Nat.beq d t
    · exact ih t (i + 1)
    · rfl
def EnvSpec (A : List Ent) (tm0 : Tm) (c : Cx) (l : List AV) (tm : Tm) : Prop := ∀ t, okO c (.tmp t) = true →
  (∃ r ∈ A, r.o.dst = some t ∧ (ev c (.tmp t)).f l tm = r.v) ∨ ((∀ r ∈ A, r.o.dst ≠ some t) ∧ bit c.G t = true ∧ (ev c (.tmp t)).f l tm = gets tm0 t)
theorem okO_tmp (c : Cx) (t : Nat) : okO c (.tmp t) = (bit c.G t || (idxOf c.ds t 0).isSome) := by
  have e : okO c (.tmp t) = Bool.rec (motive := fun _ => Bool) (Option.rec (motive := fun _ => Bool) false (fun _ => true) (idxOf c.ds t 0)) true (bit c.G t) := rfl
  rw [e]
  cases bit c.G t
  · cases idxOf c.ds t 0 <;> rfl
  · rfl
theorem EnvSpec.next {N : Nat} {A : List Ent} {tm0 : Tm} {e : Ent} (h : EnvSpec A tm0 e.c e.l e.tm) : match slotOf e.c N e.o.dst with
    | .no => EnvSpec (A ++ [e]) tm0 e.c e.l e.tm
    | .loc d => EnvSpec (A ++ [e]) tm0 ⟨e.c.G, d :: e.c.ds⟩ (e.v :: e.l) e.tm
    | .glb d => EnvSpec (A ++ [e]) tm0 e.c e.l (e.tm.set d e.v)
    | .bad => True := by
  have old : ∀ t (c' : Cx) (l' : List AV) (tm' : Tm), c'.G = e.c.G → (ev c' (.tmp t)).f l' tm' = (ev e.c (.tmp t)).f e.l e.tm → okO e.c (.tmp t) = true → e.o.dst ≠ some t →
      (∃ r ∈ A ++ [e], r.o.dst = some t ∧ (ev c' (.tmp t)).f l' tm' = r.v) ∨ ((∀ r ∈ A ++ [e], r.o.dst ≠ some t) ∧ bit c'.G t = true ∧ (ev c' (.tmp t)).f l' tm' = gets tm0 t) := by
    intro t c' l' tm' hG hev hok hne
    rw [hev, hG]
    rcases h t hok with ⟨r, h1, h2, h3⟩ | ⟨h1, h2, h3⟩
    · exact .inl ⟨r, List.mem_append_left _ h1, h2, h3⟩
    · refine .inr ⟨fun r hr => ?_, h2, h3⟩
      rcases List.mem_append.1 hr with hr | hr
      · exact h1 r hr
      · rw [List.mem_singleton] at hr; subst hr; exact hne
  cases hd : e.o.dst with
  | none =>
    rw [slotOf_none]
    intro t hok
    exact old t e.c e.l e.tm rfl rfl hok (by rw [hd]; simp)
  | some d =>
    rw [slotOf_some]
    by_cases hN : d + 1 ≤ N
    · rw [if_pos hN]
      cases hix : idxOf e.c.ds d 0 with
      | some i => trivial
      | none =>
        by_cases hb : bit e.c.G d = true
        · simp only [if_pos hb]
          intro t hok
          by_cases ht : t = d
          · subst ht
            refine .inl ⟨e, List.mem_append_right _ (List.mem_singleton.2 rfl), hd, ?_⟩
            rw [ev_tmp, if_pos hb]
            unfold gets
            rw [get_set, if_pos rfl]; rfl
          · refine old t e.c e.l _ rfl ?_ hok (by rw [hd]; intro h; exact ht (Option.some.inj h).symm)
            rw [ev_tmp, ev_tmp]
            unfold gets
            rw [get_set, if_neg ht]
        · simp only [if_neg hb]
          intro t hok
          by_cases ht : t = d
          · subst ht
            refine .inl ⟨e, List.mem_append_right _ (List.mem_singleton.2 rfl), hd, ?_⟩
            rw [ev_tmp, if_neg hb]
            have : idxOf (t :: e.c.ds) t 0 = some 0 := by
              have e1 : idxOf (t :: e.c.ds) t 0 = Bool.rec (motive := fun _ => Option Nat) (idxOf e.c.ds t 1) (some 0) (Nat.beq t t) := rfl
              rw [e1, Nat.beq_refl]
            simp only [this]
            rfl
          · have e1 : idxOf (d :: e.c.ds) t 0 = (idxOf e.c.ds t 0).map (· + 1) := by
              have e1 : idxOf (d :: e.c.ds) t 0 = Bool.rec (motive := fun _ => Option Nat) (idxOf e.c.ds t (0 + 1)) (some 0) (Nat.beq d t) := rfl
              rw [e1, beq_ne (Ne.symm ht), idxOf_succ]
            refine old t ⟨e.c.G, d :: e.c.ds⟩ _ _ rfl ?_ ?_ (by rw [hd]; intro h; exact ht (Option.some.inj h).symm)
            · rw [ev_tmp, ev_tmp]
              simp only [e1]
              cases idxOf e.c.ds t 0 with
              | none => rfl
              | some i => simp only [Option.map_some, List.getElem?_cons_succ]
            · rw [okO_tmp] at hok ⊢
              simp only [e1] at hok
              cases hx : idxOf e.c.ds t 0 with
              | none => rw [hx] at hok; simpa using hok
              | some i => simp
    · rw [if_neg hN]; trivial

/-! ### What is well formed -/
def WfS (s : St) : Prop := ∀ b o, s.hp.get b = some o → b < s.nx ∧ o.wf s.nx
structure WfE (e : Ent) : Prop where
  s : WfS e.s
  s' : WfS e.s'
  args : ArgsWf e.c e.l e.tm e.s.nx
  v : e.v.wf e.s'.nx
  le : e.s.nx ≤ e.s'.nx
  df : e.s'.df = e.s.df
  q : (isE e.o.op = true → e.v = undefA ∧ e.s' = e.s) → e.s' = e.s ∨ ∃ ob, e.s' = (e.s.new ob).2 ∧ ∀ g p, ob.key = some (g, p) → g = e.s.nx
theorem wpIn_exists {P : Program} {o : Oper} {ro : Option Nat} {n : Nat} {a : Act} {w : World} {X : Act → World → Prop} (h : o.wpIn (FW ro) n P a w X (fun _ _ _ => False)) : ∃ a' w', X a' w' := by
  obtain ⟨_, h⟩ := h
  have room : ∀ k, (FW ro).room k := fun k d hd => by cases hd
  generalize (o.semAt (FW ro).round a.eval).run P w = r at h
  cases r with
  | ok x w' =>
    cases x with
    | value v => exact ⟨_, _, h⟩
    | skip => exact ⟨_, _, h⟩
    | defer d => exact ⟨_, _, h⟩
    | enter f args =>
      obtain ⟨_, _, h⟩ := h
      obtain ⟨e, w'', fr, h1, _⟩ := h [] (room _)
      cases e with
      | returned v => exact ⟨_, _, h1⟩
      | panicked c => exact h1.elim
      | outgrown => obtain ⟨_, _, h1⟩ := h1; exact h1.elim
    | row row args =>
      obtain ⟨_, h⟩ := h
      obtain ⟨v, w'', h1, _⟩ := h default [] (room _)
      exact ⟨_, _, h1⟩
    | round l f tmps x y =>
      obtain ⟨_, _, h⟩ := h
      obtain ⟨e, w'', h1, _⟩ := h default [] (room _)
      cases e with
      | returned v => exact ⟨_, _, h1⟩
      | panicked c => exact h1.elim
      | outgrown => obtain ⟨_, _, h1⟩ := h1; exact h1.elim
    | _ => exact h.elim
  | halt x w' =>
    cases x with
    | panic v => exact h.elim
    | _ => exact h.elim
/-- one step, in the order looked at, in some world -/
theorem ent_step {E : Env} (hE : EnvOk E) {ops : List Oper} {anc : List Nat} {e : Ent} (hok : EntOk E ops anc e) {N : Nat} {m : Ren} {a : Act} {w : World} (hF : Fr E e.c N e.l e.tm e.s m a w) :
    (∃ m' w', Rel m' e.s' w'.heap ∧ Grow m e.s w m' e.s' w' ∧ e.v.wf e.s'.nx ∧ e.s'.df = e.s.df) ∧
      ((isE e.o.op = true → e.v = undefA ∧ e.s' = e.s) → e.s' = e.s ∨ ∃ ob, e.s' = (e.s.new ob).2 ∧ ∀ g p, ob.key = some (g, p) → g = e.s.nx) := by
  have harg := hF.env.args
  rcases hok.fact with ⟨hw, hv, hs⟩ | ⟨hw, hi, _, h⟩ | ⟨hw, hi, fs, hfs, hsn, h⟩
  · refine ⟨?_, fun _ => .inl hs⟩
    rw [hv, hs]; exact ⟨m, w, hF.rel, .refl _ _ _, trivial, rfl⟩
  · obtain ⟨_, _, m', w', h1⟩ := wpIn_exists (h m w a none 0 (fun _ _ => ∃ m' w', Rel m' e.s' w'.heap ∧ Grow m e.s w m' e.s' w' ∧ e.v.wf e.s'.nx ∧ e.s'.df = e.s.df) _ hF.rel hF.facts harg.1 harg.2 fun m' w' h1 h2 h3 h4 => ⟨m', w', h1, h2, h3, h4⟩)
    exact ⟨⟨m', w', h1⟩, fun h => .inl (h hi).2⟩
  · obtain ⟨h1, h2⟩ := h (Rel.wf hE hF.rel) harg.1
    have hP := h2 m w a.eval hF.facts harg.2 (foot_rel hE e.c hF.rel hok.oks harg.1 fs hfs)
    obtain ⟨m', w', r, _, _, h3, h4, h5, h6⟩ := does_of_pure hE hF.rel h1 hP
    refine ⟨⟨m', w', h3, h4, h5, h6⟩, fun _ => ?_⟩
    rcases hP with ⟨k, _⟩ | ⟨ob, O, cap, w1, k1, _, _, _, _, _, _, k2, _⟩
    · exact .inl k
    · exact .inr ⟨ob, k1, k2⟩
theorem relWfS {E : Env} (_hE : EnvOk E) {m : Ren} {s : St} {h : Array Obj} (hR : Rel m s h) : WfS s := fun b o hb => hR.lt b o hb
/-- what one run tells -/
structure ChainI (E : Env) (N : Nat) (ops : List Oper) (anc : List Nat) (tm0 : Tm) (pre : List Ent) (e : Ent) : Prop where
  ok : EntOk E ops anc e
  wf : WfE e
  env : EnvSpec pre tm0 e.c e.l e.tm
  told : Told ops pre e.sn
  before : ∀ r ∈ pre, r.s'.nx ≤ e.s.nx
  dstN : ∀ d, e.o.dst = some d → d < N
theorem slot_lt {E : Env} (_hE : EnvOk E) {c : Cx} {N : Nat} {dst : Option Tmp} (h : slotOf c N dst ≠ .bad) : ∀ d, dst = some d → d < N := by
  rintro d rfl
  rw [slotOf_some] at h
  by_cases hN : d + 1 ≤ N
  · exact hN
  · rw [if_neg hN] at h; exact absurd rfl h
theorem chain_info {E : Env} (hE : EnvOk E) {N : Nat} {ops : List Oper} {anc : List Nat} {tm0 : Tm} {G : Nat} : ∀ (es : List Ent) (pre : List Ent) (c : Cx) (l : List AV) (tm : Tm) (s : St) (sn : List Sn) (tmF : Tm) (sF : St), c.G = G → Chain E N ops anc es c l tm s sn tmF sF →
    (∃ m a w, Fr E c N l tm s m a w) → EnvSpec pre tm0 c l tm → Told ops pre sn → (∀ r ∈ pre, r.s'.nx ≤ s.nx) →
    (∀ A e B, es = A ++ e :: B → ChainI E N ops anc tm0 (pre ++ A) e ∧ e.c.G = G) ∧ TmWf sF.nx tmF ∧ WfS sF ∧ (∃ c l, c.G = G ∧ EnvSpec (pre ++ es) tm0 c l tmF) ∧ (∀ r ∈ pre ++ es, r.s'.nx ≤ sF.nx) ∧ sF.df = s.df := by
  intro es
  induction es with
  | nil =>
    rintro pre c l tm s sn tmF sF hG ⟨rfl, rfl⟩ ⟨m, a, w, hF⟩ hEn hT hB
    refine ⟨fun A e B h => ?_, hF.env.twf, relWfS hE hF.rel, ⟨c, l, hG, by rw [List.append_nil]; exact hEn⟩, by rw [List.append_nil]; exact hB, rfl⟩
    have := congrArg List.length h
    simp at this
  | cons e es ih =>
    rintro pre c l tm s sn tmF sF hG ⟨⟨rfl, rfl, rfl, rfl, rfl⟩, hok, hch⟩ ⟨m, a, w, hF⟩ hEn hT hB
    obtain ⟨⟨m', w', hR', hG', hv, hdf⟩, hq⟩ := ent_step hE hok hF
    have harg := hF.env.args
    have hsb : slotOf e.c N e.o.dst ≠ .bad := fun h => by rw [h] at hch; exact hch.elim
    have hI : ChainI E N ops anc tm0 pre e := ⟨hok, ⟨relWfS hE hF.rel, relWfS hE hR', harg.1, hv, hG'.nx, hdf, hq⟩, hEn, hT, hB, slot_lt hE hsb⟩
    have hstep := hF.step hR' hG' hv hdf e.o.dst
    have hT' := hT.next
    have hB' : ∀ r ∈ pre ++ [e], r.s'.nx ≤ e.s'.nx := by
      intro r hr
      rcases List.mem_append.1 hr with hr | hr
      · exact Nat.le_trans (hB r hr) hG'.nx
      · rw [List.mem_singleton] at hr; subst hr; exact Nat.le_refl _
    have hE' := hEn.next (N := N)
    have fin : ∀ (c' : Cx) (l' : List AV) (tm' : Tm), c'.G = G → Chain E N ops anc es c' l' tm' e.s' (snNext ops e) tmF sF → (∃ m a w, Fr E c' N l' tm' e.s' m a w) → EnvSpec (pre ++ [e]) tm0 c' l' tm' →
        (∀ A x B, e :: es = A ++ x :: B → ChainI E N ops anc tm0 (pre ++ A) x ∧ x.c.G = G) ∧ TmWf sF.nx tmF ∧ WfS sF ∧ (∃ c l, c.G = G ∧ EnvSpec (pre ++ e :: es) tm0 c l tmF) ∧ (∀ r ∈ pre ++ e :: es, r.s'.nx ≤ sF.nx) ∧ sF.df = e.s.df := by
      intro c' l' tm' hG2 hch' hF' hEn'
      obtain ⟨h1, h2, h3, h4, h5, h6⟩ := ih (pre ++ [e]) c' l' tm' e.s' (snNext ops e) tmF sF hG2 hch' hF' hEn' hT' hB'
      rw [List.append_assoc, List.singleton_append] at h4 h5
      refine ⟨fun A x B hAB => ?_, h2, h3, h4, h5, h6.trans hdf⟩
      cases A with
      | nil =>
        rw [List.nil_append, List.cons.injEq] at hAB
        rw [← hAB.1, List.append_nil]
        exact ⟨hI, hG⟩
      | cons y A =>
        rw [List.cons_append, List.cons.injEq] at hAB
        rw [← hAB.1]
        have := h1 A x B hAB.2
        rwa [List.append_assoc] at this
    cases hsl : slotOf e.c N e.o.dst with
    | bad => rw [hsl] at hch; exact hch.elim
    | no => rw [hsl] at hch hstep hE'; exact fin e.c e.l e.tm hG hch ⟨m', _, w', hstep⟩ hE'
    | loc d => rw [hsl] at hch hstep hE'; exact fin ⟨e.c.G, d :: e.c.ds⟩ (e.v :: e.l) e.tm hG hch ⟨m', _, w', hstep⟩ hE'
    | glb d => rw [hsl] at hch hstep hE'; exact fin e.c e.l (e.tm.set d e.v) hG hch ⟨m', _, w', hstep⟩ hE'
theorem pairD_of {E : Env} (_hE : EnvOk E) {N : Nat} {ops : List Oper} {anc : List Nat} {tm0 : Tm} {pre : List Ent} {e : Ent} (hI : ChainI E N ops anc tm0 pre e) : ∀ r ∈ pre, PairD E ops anc r e := by
  intro r hr
  refine ⟨fun hw hi hrw hanc hor fs hfs => ?_⟩
  obtain ⟨t1, t2⟩ := hI.told r hr hrw
  rcases hI.ok.fact with ⟨hw', _, _⟩ | ⟨_, hi', _, _⟩ | ⟨_, _, fs', hfs', hsn, _⟩
  · rw [hw] at hw'; cases hw'
  · rw [hi] at hi'; cases hi'
  · rw [hfs] at hfs'; cases hfs'
    cases hri : isE r.o.op with
    | true =>
      rcases snOk_mem hsn _ (t1 hri) with h | h
      · rw [hanc] at h; cases h
      · obtain ⟨k1, k2, k3, k4⟩ := snOk1_eq h
        exact ⟨k1, k2, k3, fun _ => k4 rfl⟩
    | false =>
      rcases hor with h | h
      · rw [hri] at h; cases h
      · rcases snOk_mem hsn _ (t2 hri h) with h | h
        · rw [hanc] at h; cases h
        · obtain ⟨k1, k2, k3, k4⟩ := snOk1_eq h
          exact ⟨k1, k2, k3, fun h => by cases h⟩
end Go.Vx
