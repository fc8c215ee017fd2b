/- The abstract executor: regions that draw their order: each step keeps it. -/
import Derived.Test.YtnccicagemmjeaaGreatDoorVx34
namespace Go.Vx
theorem okOs_mem {c : Cx} : ∀ {l : List Operand}, okOs c l = true → ∀ x ∈ l, okO c x = true := by
  intro l
  induction l with
  | nil => intro _ x h; cases h
  | cons y l ih =>
    intro h x hx
    obtain ⟨h1, h2⟩ := (okOs_cons c y l).1 h
    rcases List.mem_cons.1 hx with rfl | hx
    · exact h1
    · exact ih h2 x hx
theorem argsVal_of {c : Cx} {l : List AV} {tm : Tm} {m : Ren} {ρ : Operand → Value} (ht : ∀ t, okO c (.tmp t) = true → ρ (.tmp t) = ((ev c (.tmp t)).f l tm).val m) (hc : ∀ v, ρ (.const v) = v) (hf : ∀ f, ρ (.func f) = .func (.func f) #[] #[]) : ArgsVal c l tm m ρ := by
  refine ⟨fun x hx => ?_⟩
  cases x with
  | tmp t => exact ht t hx
  | const v =>
    rw [hc]
    have e : okO c (.const v) = Option.rec (motive := fun _ => Bool) false (fun _ => true) (ofValue v) := rfl
    rw [e, recO] at hx
    cases hv : ofValue v with
    | none => rw [hv] at hx; cases hx
    | some x =>
      have := ofValue_val m 0 v x hv
      have e2 : (ev c (.const v)).f l tm = x := by
        show (match ofValue v with | some a => (⟨fun _ _ => a⟩ : EvR) | none => ⟨fun _ _ => undefA⟩).f l tm = x
        rw [hv]
      rw [e2]
      exact this.1.symm
  | global g => cases hx
  | func f => rw [hf]; rfl
theorem wanted_eq2 {c : Cx} {l : List AV} {tm : Tm} {m : Ren} {ops : List Oper} {o : Oper} {a : Act} (ha : ∀ d, bit (tmpsBit (guardL ops o)) d = true → okO c (.tmp d) = true → a.tmps.getD d undef = ((ev c (.tmp d)).f l tm).val m) (hg : okGuard c ops o = true) :
    Region.wanted o (yielded ops.toArray a.tmps) = (wantedA c ops o).f l tm := by
  unfold Region.wanted wantedA
  unfold okGuard at hg
  unfold guardL at ha
  cases hgd : o.guard with
  | none => rfl
  | some jw =>
    obtain ⟨j, want⟩ := jw
    rw [hgd] at hg ha
    simp only at hg ha ⊢
    unfold yielded
    rw [List.getElem?_toArray, ← nth_eq]
    cases hj : nth ops j with
    | none => rfl
    | some p =>
      rw [hj] at hg ha
      simp only [Option.bind_some] at hg ha ⊢
      cases hd : p.dst with
      | none => rfl
      | some d =>
        rw [hd] at hg ha
        simp only [Option.bind_some] at hg ha ⊢
        have hv : a.tmps.getD d undef = ((ev c (.tmp d)).f l tm).val m := ha d (tmpsBit_mem _ _ (List.mem_singleton.2 rfl)) hg
        rw [Array.getD_eq_getD_getElem?] at hv
        have key := yes_eq m want ((ev c (.tmp d)).f l tm)
        rw [← hv] at key
        cases ht : a.tmps[d]? with
        | none =>
          rw [ht] at key
          cases hy : yes want ((ev c (.tmp d)).f l tm) with
          | false => rfl
          | true => have := key.1 hy; cases this
        | some u =>
          rw [ht] at key
          simp only [Option.getD_some] at key
          cases hy : yes want ((ev c (.tmp d)).f l tm) with
          | true => rw [key.1 hy]; simp
          | false =>
            have : ¬ u = .bool want := fun e => by rw [key.2 e] at hy; cases hy
            cases u <;> simp
            rename_i b
            intro e; exact this (by rw [e])
theorem wpIn_swap {P : Program} {o : Oper} {ro : Option Nat} {n : Nat} {a b : Act} {w : World} {K : Act → World → Prop} {Q : Exit → Act → World → Prop} (hs : b.tmps.size = a.tmps.size) (_hd : a.defers = b.defers) (hnd : ∀ c, o.op ≠ .defer c)
    (hrun : execOp a.eval o = execOp b.eval o) (h : o.wpIn (FW ro) n P b w (fun a' w' => ∃ u, a' = b.put o.dst u ∧ K (a.put o.dst u) w') (fun _ _ _ => False)) : o.wpIn (FW ro) n P a w K Q := by
  have key : ∀ v w', (∃ u, b.put o.dst v = b.put o.dst u ∧ K (a.put o.dst u) w') → K (a.put o.dst v) w' := by
    rintro v w' ⟨u, h1, h2⟩
    have : a.put o.dst v = a.put o.dst u := by
      cases hdst : o.dst with
      | none => rfl
      | some d =>
        rw [hdst] at h1
        simp only [Act.put, Act.mk.injEq, and_true] at h1 ⊢
        by_cases hlt : d < b.tmps.size
        · have := congrArg (fun x => x[d]?) h1
          simp [hlt] at this
          rw [this]
        · have hge : a.tmps.size ≤ d := by rw [← hs]; exact Nat.le_of_not_lt hlt
          rw [Array.setIfInBounds_eq_of_size_le hge, Array.setIfInBounds_eq_of_size_le hge]
    rw [this]; exact h2
  obtain ⟨_, h⟩ := h
  refine ⟨fun _ _ => trivial, ?_⟩
  rw [Oper.semAt_eq _ _ _ hnd] at h ⊢
  rw [hrun]
  generalize (execOp b.eval o).run P w = r at h
  cases r with
  | ok x w' =>
    cases x with
    | value v => exact key v w' h
    | skip => exact key _ w' h
    | defer d =>
      obtain ⟨u, h1, _⟩ := h
      exfalso
      have h2 := congrArg Act.defers h1
      rw [put_defers, put_defers] at h2
      have := congrArg List.length h2
      simp at this
    | enter f args =>
      refine ⟨h.1, h.2.mono fun e w'' he => ?_⟩
      cases e with
      | returned v => exact key v w'' he
      | panicked c => exact he.elim
      | outgrown => obtain ⟨_, _, he⟩ := he; exact he.elim
    | row row args => exact ⟨h.1, h.2.mono fun v w'' he => key v w'' he⟩
    | round l f tmps x y =>
      refine ⟨h.1, h.2.mono fun e w'' he => ?_⟩
      cases e with
      | returned v => exact key v w'' he
      | panicked c => exact he.elim
      | outgrown => obtain ⟨_, _, he⟩ := he; exact he.elim
    | _ => exact h.elim
  | halt x w' =>
    cases x with
    | panic v => exact h.elim
    | _ => exact h.elim
/-- what a step reads is what the order looked at has -/
theorem Inv.sync {E : Env} {N : Nat} {G : Nat} {ops : List Oper} {anc : List Nat} {es : List Ent} {tm0 : Tm} {tmF : Tm} {s0 : St} {sF : St} (hF : Full E N G ops anc es tm0 tmF s0 sF) {m0 : Ren} {a0 : Act} {w0 : World} (h0 : EnvRel ⟨G, []⟩ N [] tm0 m0 s0.nx a0) {es1 es2 A B : List Ent} {e : Ent} {s : St} {D : Nat → Prop} {m : Ren} {a : Act} {w : World} (h : Inv E N G ops anc es sF m0 s0 a0 w0 es1 es2 s D m a w) (hsp : es = A ++ e :: B)
    (hDe : ¬ D e.i) (hanc : ∀ r, bit (ancAt anc e.i) r = true → D r) (t : Nat) (ht : bit (rdMask ops e.o) t = true) (hok : okO e.c (.tmp t) = true) : a.tmps.getD t undef = ((ev e.c (.tmp t)).f e.l e.tm).val m := by
  have hi := hF.info A e B hsp
  rcases hi.1.env t hok with ⟨r, h1, h2, h3⟩ | ⟨h1, h2, h3⟩
  · have hr : r ∈ es := by rw [hsp]; exact List.mem_append_left _ h1
    have hp := hF.pair A e B hsp r h1
    have hD : D r.i := by
      rcases hp.rw with h4 | ⟨h4, _⟩
      · exact hanc _ h4
      · rw [h4 t h2] at ht; cases ht
    rw [h3]
    exact h.tmpsD r hr hD t h2
  · have hno : ∀ f ∈ es, D f.i → f.o.dst ≠ some t := by
      intro f hf hD hd
      rcases split3 hsp hf with h4 | h4 | ⟨B1, B2, h4⟩
      · exact h1 f h4 hd
      · subst h4; exact hDe hD
      · have hp := hF.pair _ f B2 h4 e (List.mem_append_right _ List.mem_cons_self)
        have hna : ¬ bit (ancAt anc f.i) e.i = true := fun hb => hDe (h.closed f hf hD _ hb)
        rcases hp.rw with h5 | ⟨_, h5⟩
        · exact hna h5
        · rw [h5 t hd] at ht; cases ht
    rw [h.tmps0 t hno, h3, h0.glb t (by rw [← hi.2]; exact h2), val_agree h.grow.agree _ (h0.twf.gets t)]
theorem hd_le {E : Env} {N : Nat} {G : Nat} {ops : List Oper} {anc : List Nat} {es : List Ent} {tm0 : Tm} {tmF : Tm} {s0 : St} {sF : St} (hF : Full E N G ops anc es tm0 tmF s0 sF) {es1 X B : List Ent} {e : Ent} (hsp : es = es1 ++ (X ++ e :: B)) : (hd (X ++ e :: B) sF).nx ≤ e.s.nx := by
  cases X with
  | nil => exact Nat.le_refl _
  | cons r X =>
    have h1 := (hF.info es1 r (X ++ e :: B) (by rw [hsp]; simp)).1
    have h2 := (hF.info (es1 ++ r :: X) e B (by rw [hsp]; simp)).1
    exact Nat.le_trans h1.wf.le (h2.before r (List.mem_append_right _ List.mem_cons_self))
/-- what it reads is there -/
theorem Inv.foot {E : Env} {N : Nat} {G : Nat} {ops : List Oper} {anc : List Nat} {es : List Ent} {tm0 : Tm} {tmF : Tm} {s0 : St} {sF : St} (hF : Full E N G ops anc es tm0 tmF s0 sF) {m0 : Ren} {a0 : Act} {w0 : World} (hE : EnvOk E) {es1 es2 B : List Ent} {e : Ent} {s : St} {D : Nat → Prop} {m : Ren} {a : Act} {w : World} (h : Inv E N G ops anc es sF m0 s0 a0 w0 es1 es2 s D m a w)
    (hanc : ∀ r, bit (ancAt anc e.i) r = true → D r) (hw : e.want ops = true) (hi : isE e.o.op = false) {fs : List Foot} (hfs : (footOf E e.c e.o.op).f e.l e.tm = some fs) (hok : okOs e.c (opL e.o.op) = true) {f : Foot} (hf : f ∈ fs) :
    ∀ (Y X : List Ent), es2 = X ++ (Y ++ e :: B) → FootOk E m w (hd (Y ++ e :: B) sF) f → FootOk E m w e.s f := by
  intro Y
  induction Y with
  | nil => intro X _ h1; exact h1
  | cons r Y ih =>
    intro X hX h1
    have hsp : es = (es1 ++ X) ++ r :: (Y ++ e :: B) := by rw [h.split, hX]; simp
    have hspe : es = (es1 ++ X ++ r :: Y) ++ e :: B := by rw [hsp]; simp
    refine ih (X ++ [r]) (by rw [hX]; simp) ?_
    rw [hF.link _ _ _ hsp]
    have h1 : FootOk E m w r.s f := h1
    have hr2 : r ∈ es2 := by rw [hX]; exact List.mem_append_right _ List.mem_cons_self
    have hir := (hF.info _ _ _ hsp).1
    have hie := (hF.info _ _ _ hspe).1
    have hmem : r ∈ es1 ++ X ++ r :: Y := List.mem_append_right _ List.mem_cons_self
    have hkey : ∀ t x k ok, f = .look t x k ok → k.wf e.s.nx := fun t x k ok he => foot_key hE hok hie.wf.args hfs (he ▸ hf)
    by_cases hs : r.s' = r.s
    · rw [hs]; exact h1
    · by_cases hD : D r.i
      · rcases h.ahead r hr2 hD with h2 | ⟨ob, k1, k2, k3, _⟩
        · exact absurd h2 hs
        · have hget : r.s'.hp = r.s.hp.set r.s.nx ob := by rw [k1]; rfl
          cases hb : footNm f with
          | none => exact foot_keep hE (fun b hb' => by rw [hb] at hb'; cases hb') h1
          | some b =>
            by_cases hbe : b = r.s.nx
            · subst hbe
              have hg : r.s'.hp.get r.s.nx = some ob := by rw [hget]; exact get_set_self _ _ _
              exact foot_known hE hb hg k3 (HO.wf_mono (hie.before r hmem) _ (hir.wf.s' _ _ hg).2) hkey
            · exact foot_keep hE (fun b' hb' => by rw [hb] at hb'; cases hb'; rw [hget, get_set_ne _ _ hbe]) h1
      · have hna : bit (ancAt anc e.i) r.i = false := by
          cases hb : bit (ancAt anc e.i) r.i with
          | false => rfl
          | true => exact absurd (hanc _ hb) hD
        have hrw : r.want ops = true := by
          rcases hir.ok.fact with ⟨_, _, hs'⟩ | ⟨hw, _, _, _⟩ | ⟨hw, _, _, _, _, _⟩
          · exact absurd hs' hs
          · exact hw
          · exact hw
        cases hri : isE r.o.op with
        | true =>
          obtain ⟨_, _, _, k4⟩ := (pairD_of hE hie r hmem).sn hw hi hrw hna (.inl hri) fs hfs
          exact foot_same hE (k4 hri f hf) hir.wf.s' h1
        | false =>
          rcases hir.wf.q (fun h => by rw [hri] at h; cases h) with hq | ⟨ob, hq, _⟩
          · exact absurd hq hs
          · have hnx : r.s'.nx = r.s.nx + 1 := by rw [hq]; rfl
            have hget : r.s'.hp = r.s.hp.set r.s.nx ob := by rw [hq]; rfl
            obtain ⟨_, _, k3, _⟩ := (pairD_of hE hie r hmem).sn hw hi hrw hna (.inr (by omega)) fs hfs
            refine foot_keep hE (fun b hb => ?_) h1
            have := footOut_nm hE (k3 f hf) hb
            rw [hget, get_set_ne _ _ (by omega)]
/-- a step that lays nothing -/
theorem Inv.still {E : Env} {N : Nat} {G : Nat} {ops : List Oper} {anc : List Nat} {es : List Ent} {tm0 : Tm} {tmF : Tm} {s0 : St} {sF : St} (hF : Full E N G ops anc es tm0 tmF s0 sF) {m0 : Ren} {a0 : Act} {w0 : World} {es1 es2 A B : List Ent} {e : Ent} {s : St} {D : Nat → Prop} {m : Ren} {a : Act} {w : World} (h : Inv E N G ops anc es sF m0 s0 a0 w0 es1 es2 s D m a w) (hsp : es = A ++ e :: B)
    (hanc : ∀ r, bit (ancAt anc e.i) r = true → D r) (hne : ¬ e.eff ops) (hs : e.s' = e.s) :
    Inv E N G ops anc es sF m0 s0 a0 w0 es1 es2 s (fun j => D j ∨ j = e.i) m (a.put e.o.dst (e.v.val m)) w := by
  obtain ⟨t1, t2, t3⟩ := Inv.tmps hF (m' := m) h hsp fun _ _ _ => rfl
  refine ⟨h.split, h.head, fun f hf => .inl (h.d1 f hf), fun f hf hD => ?_, fun f hf hD r hr => ?_, h.rel, h.facts, h.grow, t1, t2, t3, by rw [put_defers]; exact h.defers, fun f hf hD => ?_⟩
  · rcases hD with hD | hD
    · exact h.q f hf hD
    · rw [hF.uniq hsp (by rw [h.split]; exact List.mem_append_right _ hf) hD]; exact hne
  · rcases hD with hD | hD
    · exact .inl (h.closed f hf hD r hr)
    · rw [hF.uniq hsp hf hD] at hr; exact .inl (hanc r hr)
  · rcases hD with hD | hD
    · rcases h.ahead f hf hD with k | ⟨ob, k1, k2, k3, k4, k5, k6, k7⟩
      · exact .inl k
      · refine .inr ⟨ob, k1, k2, k3, k4, k5, k6, fun g hg hDg hgf hgn => ?_⟩
        rcases hDg with hDg | hDg
        · exact k7 g hg hDg hgf hgn
        · rw [hF.uniq hsp (by rw [h.split]; exact List.mem_append_right _ hg) hDg, hs] at hgn; exact absurd rfl hgn
    · rw [hF.uniq hsp (by rw [h.split]; exact List.mem_append_right _ hf) hD]; exact .inl hs
/-- a step that reads, or lays a new object -/
theorem Inv.quiet {E : Env} {N : Nat} {G : Nat} {ops : List Oper} {anc : List Nat} {es : List Ent} {tm0 : Tm} {tmF : Tm} {s0 : St} {sF : St} (hF : Full E N G ops anc es tm0 tmF s0 sF) {m0 : Ren} {a0 : Act} {w0 : World} (hE : EnvOk E) (h0 : EnvRel ⟨G, []⟩ N [] tm0 m0 s0.nx a0) {es1 X B : List Ent} {e : Ent} {s : St} {D : Nat → Prop} {m : Ren} {a : Act} {w : World} (h : Inv E N G ops anc es sF m0 s0 a0 w0 es1 (X ++ e :: B) s D m a w)
    (hDe : ¬ D e.i) (hanc : ∀ r, bit (ancAt anc e.i) r = true → D r) (hw : e.want ops = true) (hi : isE e.o.op = false) {fs : List Foot} (hfs : (footOf E e.c e.o.op).f e.l e.tm = some fs) (hq : QuietFact E fs e) :
    ∃ u w' m', (execOp a.eval e.o).run E.P w = .ok (.value u) w' ∧ Inv E N G ops anc es sF m0 s0 a0 w0 es1 (X ++ e :: B) s (fun j => D j ∨ j = e.i) m' (a.put e.o.dst u) w' := by
  have hsp : es = (es1 ++ X) ++ e :: B := by rw [h.split]; simp
  have hie := (hF.info _ _ _ hsp).1
  have hne : ¬ e.eff ops := fun he => by have := he.2; rw [hi] at this; cases this
  obtain ⟨hvw, hP⟩ := hq (fun b o hb => (hie.wf.s b o hb).2) hie.wf.args
  let ρ : Operand → Value := fun x => match x with
    | .tmp t => if okO e.c (.tmp t) = true then ((ev e.c (.tmp t)).f e.l e.tm).val m else a.eval (.tmp t)
    | x => a.eval x
  have hρ : ArgsVal e.c e.l e.tm m ρ := argsVal_of (fun t ht => if_pos ht) (fun v => rfl) (fun f => rfl)
  have hex : execOp ρ e.o = execOp a.eval e.o := by
    refine execOp_congr e.o (fun cs b he => by rw [he] at hi; cases hi) fun x hx => ?_
    have hx := operands_opL hE hi x hx
    cases x with
    | tmp t =>
      have hok := okOs_mem hie.ok.oks _ hx
      have hrd : bit (rdMask ops e.o) t = true := by
        unfold rdMask
        rw [bit_or, tmpsBit_mem _ _ hx, Bool.or_true]
      show (if okO e.c (.tmp t) = true then _ else _) = a.tmps.getD t undef
      rw [if_pos hok]
      exact (Inv.sync hF h0 h hsp hDe hanc t hrd hok).symm
    | _ => rfl
  have hbase : ∀ f ∈ fs, FootOk E m w e.s f := by
    intro f hf
    refine Inv.foot hF hE h hanc hw hi hfs hie.ok.oks hf X [] rfl ?_
    have hhd : hd (X ++ e :: B) sF = s := h.head
    rw [hhd]
    refine foot_base hE (n := e.s.nx) h.rel ?_ fun t x k ok he => foot_key hE hie.ok.oks hie.wf.args hfs (he ▸ hf)
    rw [← hhd]
    exact hd_le hF h.split
  have hPO := hP m w ρ h.facts hρ hbase
  rw [hex] at hPO
  rcases hPO with ⟨hs, hrun⟩ | ⟨ob, O, cap, w', hs, hrun, hheap, ho, ht, hu, hwf, hkey, hrel⟩
  · exact ⟨_, w, m, hrun, Inv.still hF h hsp hanc hne hs⟩
  · have hnx : e.s'.nx = e.s.nx + 1 := by rw [hs]; rfl
    have hout : m.out e.s.nx e.s'.nx (m.add e.s.nx w.heap.size 0 cap) := by
      refine ⟨fun b hb => if_neg (by omega), fun b hb => if_neg (by omega), fun b hb => if_neg (by omega), rfl⟩
    have hle : s.nx ≤ e.s.nx := by
      have hhd : hd (X ++ e :: B) sF = s := h.head
      rw [← hhd]; exact hd_le hF h.split
    have hst := fun (f : Ent) (hf : f ∈ es) (hD : D f.i) => hF.stable hsp h.closed hDe hout hE hf hD
    obtain ⟨t1, t2, t3⟩ := Inv.tmps hF h hsp fun f hf hD => (hst f hf hD).1
    have hgrow : ∀ k, k < w.heap.size → w'.heap[k]? = w.heap[k]? := fun k hk => by rw [hheap, Array.getElem?_push, if_neg (by omega)]
    have hsz : w'.heap.size = w.heap.size + 1 := by rw [hheap]; simp
    have hme : e ∈ X ++ e :: B := List.mem_append_right _ List.mem_cons_self
    have hmem : ∀ f ∈ X ++ e :: B, f ∈ es := fun f hf => by rw [h.split]; exact List.mem_append_right _ hf
    -- another new object's name
    have hnm : ∀ f ∈ X ++ e :: B, f ≠ e → f.s'.nx ≠ f.s.nx → f.s.nx ≠ e.s.nx := by
      intro f hf hfe hn
      rcases split3 hsp (hmem f hf) with h1 | h1 | ⟨B1, B2, h1⟩
      · have := hie.before f h1
        obtain ⟨A1, A2, h2⟩ := List.append_of_mem h1
        have := (hF.info A1 f (A2 ++ e :: B) (by rw [hsp, h2]; simp)).1.wf.le
        omega
      · exact absurd h1 hfe
      · have := (hF.info _ f B2 h1).1.before e (List.mem_append_right _ List.mem_cons_self)
        omega
    have hblk : ∀ f ∈ X ++ e :: B, f ≠ e → f.s'.nx ≠ f.s.nx → (m.add e.s.nx w.heap.size 0 cap).blk f.s.nx = m.blk f.s.nx := fun f hf hfe hn => if_neg (hnm f hf hfe hn)
    have hagree : m.agree (m.add e.s.nx w.heap.size 0 cap) s.nx := hout.agree hle
    have hlt : ∀ f ∈ X ++ e :: B, D f.i → f.s'.nx ≠ f.s.nx → m.blk f.s.nx < w.heap.size := by
      intro f hf hD hn
      rcases h.ahead f hf hD with k | ⟨ob, _, _, _, _, k5, _⟩
      · rw [k] at hn; exact absurd rfl hn
      · exact k5
    refine ⟨_, w', _, hrun, h.split, h.head, fun f hf => .inl (h.d1 f hf), fun f hf hD => ?_, fun f hf hD r hr => ?_, rel_grow h.rel hagree hgrow, h.facts, grow_grow h.rel h.grow hagree (by omega) hgrow ho ht hu, t1, t2, t3,
      by rw [put_defers]; exact h.defers, fun f hf hD => ?_⟩
    · rcases hD with hD | hD
      · exact h.q f hf hD
      · rw [hF.uniq hsp (hmem f hf) hD]; exact hne
    · rcases hD with hD | hD
      · exact .inl (h.closed f hf hD r hr)
      · rw [hF.uniq hsp hf hD] at hr; exact .inl (hanc r hr)
    · by_cases hfe : f = e
      · subst hfe
        refine .inr ⟨ob, hs, hkey, hrel, ?_, ?_, fun b o hb hl => ?_, fun g hg hDg hgf hgn => ?_⟩
        · rw [Ren.add_blk]; exact h.grow.size
        · rw [Ren.add_blk]; omega
        · rw [hagree.blk b (h.rel.lt b o hb).1, Ren.add_blk]
          have := HO.rel_lt (h.rel.obj b o hb) hl
          omega
        · have hge : g ≠ f := fun he => hgf (by rw [he])
          rw [hblk g hg hge hgn, Ren.add_blk]
          rcases hDg with hDg | hDg
          · have := hlt g hg hDg hgn; omega
          · exact absurd hDg hgf
      · have hDf : D f.i := by
          rcases hD with hD | hD
          · exact hD
          · exact absurd (hF.uniq hsp (hmem f hf) hD) hfe
        rcases h.ahead f hf hDf with k | ⟨ob2, k1, k2, k3, k4, k5, k6, k7⟩
        · exact .inl k
        · have hn : f.s'.nx ≠ f.s.nx := by rw [k1]; show f.s.nx + 1 ≠ f.s.nx; omega
          have eb := hblk f hf hfe hn
          refine .inr ⟨ob2, k1, k2, (hst f (hmem f hf) hDf).2 ob2 (h.q f hf hDf) k1 _ _ (hgrow _ k5) k3, by rw [eb]; exact k4, by rw [eb]; omega, fun b o hb hl => ?_, fun g hg hDg hgf hgn => ?_⟩
          · rw [eb, hagree.blk b (h.rel.lt b o hb).1]; exact k6 b o hb hl
          · rw [eb]
            by_cases hge : g = e
            · subst hge; rw [Ren.add_blk]; omega
            · rw [hblk g hg hge hgn]
              rcases hDg with hDg | hDg
              · exact k7 g hg hDg hgf hgn
              · exact absurd (hF.uniq hsp (hmem g hg) hDg) hge
/-- an effect -/
theorem Inv.effect {E : Env} {N : Nat} {G : Nat} {ops : List Oper} {anc : List Nat} {es : List Ent} {tm0 : Tm} {tmF : Tm} {s0 : St} {sF : St} (hF : Full E N G ops anc es tm0 tmF s0 sF) {m0 : Ren} {a0 : Act} {w0 : World} (hE : EnvOk E) (h0 : EnvRel ⟨G, []⟩ N [] tm0 m0 s0.nx a0) {es1 B : List Ent} {e : Ent} {s : St} {D : Nat → Prop} {m : Ren} {a : Act} {w : World} (h : Inv E N G ops anc es sF m0 s0 a0 w0 es1 (e :: B) s D m a w)
    (hDe : ¬ D e.i) (hanc : ∀ r, bit (ancAt anc e.i) r = true → D r) (_hi : isE e.o.op = true) (hsup : Sup e.o.op) (hq : EffFact E e) (ro : Option Nat) (n : Nat) (K : Act → World → Prop) (Q : Exit → Act → World → Prop)
    (hK : ∀ m' a' w', Inv E N G ops anc es sF m0 s0 a0 w0 (es1 ++ [e]) B e.s' (fun j => D j ∨ j = e.i) m' a' w' → K a' w') : e.o.wpIn (FW ro) n E.P a w K Q := by
  have hsp : es = es1 ++ e :: B := h.split
  have hie := (hF.info _ _ _ hsp).1
  have hs : e.s = s := h.head
  subst hs
  let b : Act := { a with tmps := a.tmps.mapIdx fun t v => if okO e.c (.tmp t) = true then ((ev e.c (.tmp t)).f e.l e.tm).val m else v }
  have hbt : ∀ t, okO e.c (.tmp t) = true → b.tmps.getD t undef = ((ev e.c (.tmp t)).f e.l e.tm).val m := by
    intro t ht
    show (a.tmps.mapIdx fun t v => if okO e.c (.tmp t) = true then ((ev e.c (.tmp t)).f e.l e.tm).val m else v).getD t undef = _
    rw [Array.getD_eq_getD_getElem?, Array.getElem?_mapIdx]
    rcases Nat.lt_or_ge t a.tmps.size with hlt | hge
    · rw [Array.getElem?_eq_getElem hlt]; simp only [Option.map_some, Option.getD_some, if_pos ht]
    · rw [Array.getElem?_eq_none hge]
      simp only [Option.map_none, Option.getD_none]
      rcases hie.env t ht with ⟨r, h1, h2, h3⟩ | ⟨h1, h2, h3⟩
      · obtain ⟨A1, A2, h4⟩ := List.append_of_mem h1
        have := (hF.info A1 r (A2 ++ e :: B) (by rw [hsp, h4]; simp)).1.dstN t h2
        have hge : N ≤ t := by rw [← h.size]; exact hge
        exact absurd hge (Nat.not_le_of_lt this)
      · have hg := h0.glb t (by rw [← (hF.info _ _ _ hsp).2]; exact h2)
        rw [h3, val_agree h.grow.agree _ (h0.twf.gets t), ← hg, Array.getD_eq_getD_getElem?, Array.getElem?_eq_none (by rw [h0.size, ← h.size]; exact hge)]
        rfl
  have hav : ArgsVal e.c e.l e.tm m b.eval := argsVal_of hbt (fun v => rfl) (fun f => rfl)
  have hrun : execOp a.eval e.o = execOp b.eval e.o := by
    refine execOp_congr e.o hsup.sel fun x hx => ?_
    have hx := hsup.ops x hx
    cases x with
    | tmp t =>
      have hok := okOs_mem hie.ok.oks _ hx
      have hrd : bit (rdMask ops e.o) t = true := by
        unfold rdMask
        rw [bit_or, tmpsBit_mem _ _ hx, Bool.or_true]
      show a.tmps.getD t undef = b.tmps.getD t undef
      rw [hbt t hok]
      exact Inv.sync hF h0 h hsp hDe hanc t hrd hok
    | _ => rfl
  refine wpIn_swap (b := b) (by simp [b]) rfl hsup.dfr hrun (hq m w b ro n _ (fun _ _ _ => False) h.rel h.facts hie.wf.args hav fun m1 w1 hR hG hv hdf => ⟨_, rfl, ?_⟩)
  let m' : Ren := { blk := fun b => if b < e.s'.nx then m1.blk b else m.blk b, sh := fun b => if b < e.s'.nx then m1.sh b else m.sh b, cap := fun b => if b < e.s'.nx then m1.cap b else m.cap b, ρ := m1.ρ }
  have ha1 : m1.agree m' e.s'.nx := ⟨fun b hb => if_pos hb, fun b hb => if_pos hb, fun b hb => if_pos hb, rfl⟩
  have hout : m.out e.s.nx e.s'.nx m' := by
    refine ⟨fun b hb => ?_, fun b hb => ?_, fun b hb => ?_, hG.agree.ρ⟩
    · show (if b < e.s'.nx then m1.blk b else m.blk b) = m.blk b
      split
      · exact hG.agree.blk b (by omega)
      · rfl
    · show (if b < e.s'.nx then m1.sh b else m.sh b) = m.sh b
      split
      · exact hG.agree.sh b (by omega)
      · rfl
    · show (if b < e.s'.nx then m1.cap b else m.cap b) = m.cap b
      split
      · exact hG.agree.cap b (by omega)
      · rfl
  have hst := fun (f : Ent) (hf : f ∈ es) (hD : D f.i) => hF.stable hsp h.closed hDe hout hE hf hD
  have hvv : e.v.val m1 = e.v.val m' := (val_agree ha1 _ hv).symm
  rw [hvv]
  obtain ⟨t1, t2, t3⟩ := Inv.tmps hF h hsp fun f hf hD => (hst f hf hD).1
  have hfb : ∀ f ∈ B, f ≠ e ∧ e.s'.nx ≤ f.s.nx := by
    intro f hf
    obtain ⟨B1, B2, rfl⟩ := List.append_of_mem hf
    have hspf : es = (es1 ++ e :: B1) ++ f :: B2 := by rw [hsp]; simp
    have hm : e ∈ es1 ++ e :: B1 := List.mem_append_right _ List.mem_cons_self
    exact ⟨fun he => (hF.pair _ f B2 hspf e hm).ne (by rw [he]), (hF.info _ f B2 hspf).1.before e hm⟩
  have hmemB : ∀ f ∈ B, f ∈ es := fun f hf => by rw [hsp]; exact List.mem_append_right _ (List.mem_cons_of_mem _ hf)
  have hDB : ∀ f ∈ B, (D f.i ∨ f.i = e.i) → D f.i := by
    intro f hf hD
    rcases hD with hD | hD
    · exact hD
    · exact absurd (hF.uniq hsp (hmemB f hf) hD) (hfb f hf).1
  refine hK m' _ w1 ⟨by rw [hsp]; simp, hF.link _ _ _ hsp, fun f hf => ?_, fun f hf hD => h.q f (List.mem_cons_of_mem _ hf) (hDB f hf hD), fun f hf hD r hr => ?_, rel_grow hR ha1 (fun _ _ => rfl), by show FactsOk E m1.ρ; rw [hG.agree.ρ]; exact h.facts,
    grow_grow hR (h.grow.trans hG) ha1 (Nat.le_refl _) (fun _ _ => rfl) rfl rfl rfl, t1, t2, t3, by rw [put_defers]; exact h.defers, fun f hf hD => ?_⟩
  · rcases List.mem_append.1 hf with hf | hf
    · exact .inl (h.d1 f hf)
    · rw [List.mem_singleton] at hf; exact .inr (by rw [hf])
  · rcases hD with hD | hD
    · exact .inl (h.closed f hf hD r hr)
    · rw [hF.uniq hsp hf hD] at hr; exact .inl (hanc r hr)
  · have hD := hDB f hf hD
    rcases h.ahead f (List.mem_cons_of_mem _ hf) hD with k | ⟨ob, k1, k2, k3, k4, k5, k6, k7⟩
    · exact .inl k
    · have hblk : ∀ g ∈ B, m'.blk g.s.nx = m.blk g.s.nx := fun g hg => hout.blk _ (.inr (hfb g hg).2)
      have hh : w1.heap[m.blk f.s.nx]? = w.heap[m.blk f.s.nx]? := hG.frame _ k5 k6
      refine .inr ⟨ob, k1, k2, (hst f (hmemB f hf) hD).2 ob (h.q f (List.mem_cons_of_mem _ hf) hD) k1 _ _ hh k3, by rw [hblk f hf]; exact k4, by rw [hblk f hf]; exact Nat.lt_of_lt_of_le k5 hG.size, fun b o hb hl => ?_, fun g hg hDg hgf hgn => ?_⟩
      · rw [hblk f hf, ha1.blk b (hR.lt b o hb).1]
        rcases hG.img b o hb hl with ⟨b0, o0, j1, j2, j3⟩ | j
        · rw [← j3]; exact k6 b0 o0 j1 j2
        · omega
      · rw [hblk f hf, hblk g hg]
        exact k7 g (List.mem_cons_of_mem _ hg) (hDB g hg hDg) hgf hgn
end Go.Vx
