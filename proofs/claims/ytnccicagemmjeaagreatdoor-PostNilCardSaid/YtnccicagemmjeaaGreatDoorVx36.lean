/- The abstract executor: regions that draw their order: every order; calls of the executor are calls of the machine. -/
import Derived.Test.YtnccicagemmjeaaGreatDoorVx35
namespace Go.Vx
theorem countP_lt {α : Type} {p q : α → Bool} : ∀ {l : List α}, (∀ x ∈ l, q x = true → p x = true) → (∃ x ∈ l, p x = true ∧ q x = false) → l.countP q < l.countP p := by
  intro l
  induction l with
  | nil => rintro _ ⟨x, h, _⟩; cases h
  | cons y l ih =>
    rintro h ⟨x, hx, hp, hq⟩
    have hle : l.countP q ≤ l.countP p := List.countP_mono_left fun z hz => h z (List.mem_cons_of_mem _ hz)
    rw [List.countP_cons, List.countP_cons]
    rcases List.mem_cons.1 hx with rfl | hx
    · rw [hp, hq]; simp; omega
    · have := ih (fun z hz => h z (List.mem_cons_of_mem _ hz)) ⟨x, hx, hp, hq⟩
      have hy := h y List.mem_cons_self
      cases hqy : q y
      · simp; omega
      · rw [hy hqy]; simp; omega
theorem nodup_le : ∀ (n : Nat) (l : List Nat), l.Nodup → (∀ x ∈ l, x < n) → l.length ≤ n := by
  intro n
  induction n with
  | zero =>
    intro l _ h
    cases l with
    | nil => simp
    | cons x l => exact absurd (h x List.mem_cons_self) (by omega)
  | succ n ih =>
    intro l hn h
    have h1 := ih (l.erase n) (hn.erase n) fun x hx => by
      have h2 := (hn.mem_erase_iff).1 hx
      have := h x h2.2
      have := h2.1
      omega
    rw [List.length_erase] at h1
    split at h1 <;> omega
theorem first_un {P : Ent → Prop} : ∀ {l : List Ent}, (∃ e ∈ l, ¬ P e) → ∃ A e B, l = A ++ e :: B ∧ (∀ f ∈ A, P f) ∧ ¬ P e := by
  intro l
  induction l with
  | nil => rintro ⟨e, h, _⟩; cases h
  | cons x l ih =>
    rintro ⟨e, he, hP⟩
    by_cases hx : P x
    · have : e ∈ l := by
        rcases List.mem_cons.1 he with rfl | h
        · exact absurd hx hP
        · exact h
      obtain ⟨A, e', B, h1, h2, h3⟩ := ih ⟨e, this, hP⟩
      exact ⟨x :: A, e', B, by rw [h1]; rfl, fun f hf => by
        rcases List.mem_cons.1 hf with rfl | hf
        · exact hx
        · exact h2 f hf, h3⟩
    · exact ⟨[], x, l, rfl, fun f hf => (by cases hf), hx⟩
theorem Inv.congr {E : Env} {N G : Nat} {ops : List Oper} {anc : List Nat} {es : List Ent} {sF : St} {m0 : Ren} {s0 : St} {a0 : Act} {w0 : World} {es1 es2 : List Ent} {s : St} {D D' : Nat → Prop} {m : Ren} {a : Act} {w : World}
    (h : Inv E N G ops anc es sF m0 s0 a0 w0 es1 es2 s D m a w) (hD : ∀ j, D j ↔ D' j) : Inv E N G ops anc es sF m0 s0 a0 w0 es1 es2 s D' m a w := by
  have : D = D' := funext fun j => propext (hD j)
  rw [← this]; exact h
theorem draw_any {E : Env} {N : Nat} {G : Nat} {ops : List Oper} {es : List Ent} {tm0 : Tm} {tmF : Tm} {s0 : St} {sF : St} (hF : Full E N G ops (ancL ops []) es tm0 tmF s0 sF) {m0 : Ren} {a0 : Act} {w0 : World} (hE : EnvOk E) (h0 : EnvRel ⟨G, []⟩ N [] tm0 m0 s0.nx a0) {ro : Option Nat} {n : Nat} {Q : Exit → Act → World → Prop} (hQ : ∀ D m a w, Inv E N G ops (ancL ops []) es sF m0 s0 a0 w0 es [] sF D m a w → Q .normal a w) :
    ∀ (fuel : Nat) (listed : Array Bool) (es1 es2 : List Ent) (s : St) (m : Ren) (a : Act) (w : World), listed.size = ops.length → Inv E N G ops (ancL ops []) es sF m0 s0 a0 w0 es1 es2 s (fun j => listed.getD j false = true) m a w →
      es.countP (fun e => !listed.getD e.i false) ≤ fuel → wpAnyIn (FW ro) n E.P .any ops.toArray Q fuel listed a w := by
  -- all done
  have done : ∀ (listed : Array Bool) (es1 es2 : List Ent) (s : St) (m : Ren) (a : Act) (w : World), Inv E N G ops (ancL ops []) es sF m0 s0 a0 w0 es1 es2 s (fun j => listed.getD j false = true) m a w →
      (∀ e ∈ es, listed.getD e.i false = true) → Q .normal a w := by
    intro listed es1 es2 s m a w h hall
    have h' : Inv E N G ops (ancL ops []) es sF m0 s0 a0 w0 es1 (es2 ++ []) s (fun j => listed.getD j false = true) m a w := by rw [List.append_nil]; exact h
    have := Inv.advances hF es2 h' fun e he => hall e (by rw [h.split]; exact List.mem_append_right _ he)
    rw [← h.split] at this
    exact hQ _ m a w this
  have ready : ∀ (listed : Array Bool), listed.size = ops.length → Region.ready .any ops.toArray listed = [] → ∀ e ∈ es, listed.getD e.i false = true := by
    intro listed hsz hr e he
    by_cases hall : ∀ e ∈ es, listed.getD e.i false = true
    · exact hall e he
    · exfalso
      obtain ⟨A, f, B, h1, h2, h3⟩ := first_un (P := fun e => listed.getD e.i false = true) (by
        by_cases hx : ∃ e ∈ es, ¬ listed.getD e.i false = true
        · exact hx
        · exact absurd (fun e he => Classical.byContradiction fun hn => hx ⟨e, he, hn⟩) hall)
      have hi := (hF.info A f B h1).1
      have hlt : f.i < listed.size := by
        rw [hsz]
        have := hi.ok.op
        rcases Nat.lt_or_ge f.i ops.length with h | h
        · exact h
        · rw [List.getElem?_eq_none h] at this; cases this
      have : f.i ∈ Region.ready .any ops.toArray listed := by
        rw [mem_ready]
        refine ⟨?_, f.o, by rw [List.getElem?_toArray]; exact hi.ok.op, fun ed hed hb => ?_⟩
        · rw [Array.getD_eq_getD_getElem?, Array.getElem?_eq_getElem hlt] at h3 ⊢
          simpa using h3
        · obtain ⟨r, hr1, hr2⟩ := hF.edge A f B h1 ed (by simpa using hed) (by rw [bind1_eq]; exact hb)
          rw [← hr2]; exact h2 r hr1
      rw [hr] at this
      cases this
  intro fuel
  induction fuel with
  | zero =>
    intro listed es1 es2 s m a w hsz h hc
    have hall : ∀ e ∈ es, listed.getD e.i false = true := by
      intro e he
      have := List.countP_eq_zero.1 (Nat.le_zero.1 hc) e he
      simpa using this
    refine ⟨?_, done _ _ _ _ _ _ _ h hall⟩
    cases hr : Region.ready .any ops.toArray listed with
    | nil => rfl
    | cons i l =>
      exfalso
      have hi : i ∈ Region.ready .any ops.toArray listed := by rw [hr]; exact List.mem_cons_self
      obtain ⟨h1, o, h2, _⟩ := mem_ready.1 hi
      have hlt : i < ops.length := by
        rw [List.getElem?_toArray] at h2
        rcases Nat.lt_or_ge i ops.length with h | h
        · exact h
        · rw [List.getElem?_eq_none h] at h2; cases h2
      obtain ⟨e, he, rfl⟩ := hF.cover i hlt
      have := hall e he
      rw [Array.getD_eq_getD_getElem?, Array.getElem?_eq_getElem (by omega)] at h1 this
      simp only [Option.getD_some] at h1 this
      rw [h1] at this; cases this
  | succ fuel ih =>
    intro listed es1 es2 s m a w hsz h hc
    refine ⟨fun hr => done _ _ _ _ _ _ _ h (ready listed hsz hr), fun i hi => ?_⟩
    obtain ⟨h1, o, h2, h3⟩ := mem_ready.1 hi
    have hlt : i < ops.length := by
      rw [List.getElem?_toArray] at h2
      rcases Nat.lt_or_ge i ops.length with h | h
      · exact h
      · rw [List.getElem?_eq_none h] at h2; cases h2
    obtain ⟨e, he, rfl⟩ := hF.cover i hlt
    obtain ⟨A, B, hsp⟩ := List.append_of_mem he
    have hie := (hF.info A e B hsp).1
    have hDe : ¬ (fun j => listed.getD j false = true) e.i := by
      rw [Array.getD_eq_getD_getElem?, Array.getElem?_eq_getElem (by omega)] at h1
      simp only [Option.getD_some] at h1
      show ¬ listed.getD e.i false = true
      rw [Array.getD_eq_getD_getElem?, Array.getElem?_eq_getElem (by omega)]
      simp [h1]
    have ho : o = e.o := by
      rw [List.getElem?_toArray, hie.ok.op] at h2; exact (Option.some.inj h2).symm
    subst ho
    have hanc : ∀ r, bit (ancAt (ancL ops []) e.i) r = true → (fun j => listed.getD j false = true) r := by
      intro r hr
      obtain ⟨ed, k1, k2, k3⟩ := anc_edges hie.ok.op hr
      have hon := h3 ed (by simpa using k1) (by rw [← bind1_eq]; exact k2)
      rcases k3 with rfl | k3
      · exact hon
      · have hlt2 : ed.on < ops.length := by
          rcases Nat.lt_or_ge ed.on listed.size with h | h
          · omega
          · simp [Array.getElem?_eq_none h] at hon
        obtain ⟨f, hf, hfi⟩ := hF.cover _ hlt2
        exact h.closed f hf (by show listed.getD f.i false = true; rw [hfi]; exact hon) r (by rw [hfi]; exact k3)
    have he2 : e ∈ es2 := by
      have := he
      rw [h.split] at this
      rcases List.mem_append.1 this with h4 | h4
      · exact absurd (h.d1 e h4) hDe
      · exact h4
    obtain ⟨X, B', hX⟩ := List.append_of_mem he2
    subst hX
    have hsp : es = (es1 ++ X) ++ e :: B' := by rw [h.split]; simp
    have hset : ∀ j, ((fun j => listed.getD j false = true) j ∨ j = e.i) ↔ (listed.setIfInBounds e.i true).getD j false = true := by
      intro j
      by_cases hj : j = e.i
      · subst hj
        have : e.i < listed.size := by omega
        simp [this]
      · rw [getD_set_ne false (Ne.symm hj)]
        simp [hj]
    have hcount : es.countP (fun f => !(listed.setIfInBounds e.i true).getD f.i false) ≤ fuel := by
      have : es.countP (fun f => !(listed.setIfInBounds e.i true).getD f.i false) < es.countP (fun f => !listed.getD f.i false) := by
        refine countP_lt (fun f hf hq => ?_) ⟨e, he, by simpa using hDe, by rw [(hset e.i).1 (.inr rfl)]; rfl⟩
        cases hb : listed.getD f.i false with
        | false => rfl
        | true => rw [(hset f.i).1 (.inl hb)] at hq; cases hq
      omega
    have next : ∀ es1 es2 s m a w, Inv E N G ops (ancL ops []) es sF m0 s0 a0 w0 es1 es2 s (fun j => (fun j => listed.getD j false = true) j ∨ j = e.i) m a w → wpAnyIn (FW ro) n E.P .any ops.toArray Q fuel (listed.setIfInBounds e.i true) a w :=
      fun es1 es2 s m a w hI => ih _ es1 es2 s m a w (by simp [hsz]) (hI.congr hset) hcount
    have hwant : Region.wanted e.o (yielded ops.toArray a.tmps) = e.want ops := wanted_eq2 (fun d hd hok => Inv.sync hF h0 h hsp hDe hanc d (by unfold rdMask; rw [bit_or, hd, Bool.true_or]) hok) hie.ok.okg
    unfold wpOpIn
    rw [h2]
    simp only
    rcases hie.ok.fact with ⟨hw, hv, hs⟩ | ⟨hw, hi, hsup, hq⟩ | ⟨hw, hi, fs, hfs, _, hq⟩
    · rw [if_neg (by rw [hwant, hw]; simp)]
      have hne : ¬ e.eff ops := fun he => by have := he.1; rw [hw] at this; cases this
      have := Inv.still hF h hsp hanc hne hs
      rw [hv] at this
      exact ⟨fun _ _ => trivial, next _ _ _ _ _ _ this⟩
    · rw [if_pos (by rw [hwant, hw])]
      have hXD : ∀ r ∈ X, (fun j => listed.getD j false = true) r.i := fun r hr => hanc _ ((hF.pair _ e B' hsp r (List.mem_append_right _ hr)).eff hi)
      have h' := Inv.advances hF X h hXD
      exact Inv.effect hF hE h0 h' hDe hanc hi hsup hq ro n _ Q fun m' a' w' hI => next _ _ _ _ _ _ hI
    · rw [if_pos (by rw [hwant, hw])]
      obtain ⟨u, w', m', hrun, hI⟩ := Inv.quiet hF hE h0 h hDe hanc hw hi hfs hq
      refine ⟨fun _ _ => trivial, ?_⟩
      rw [Oper.semAt_eq _ _ _ (by intro c hc; rw [hc] at hi; cases hi), hrun]
      exact next _ _ _ _ _ _ hI
theorem chain_link {E : Env} {N : Nat} {ops : List Oper} {anc : List Nat} : ∀ (es : List Ent) (c : Cx) (l : List AV) (tm : Tm) (s : St) (sn : List Sn) (tmF : Tm) (sF : St), Chain E N ops anc es c l tm s sn tmF sF →
    hd es sF = s ∧ ∀ A e B, es = A ++ e :: B → hd B sF = e.s' := by
  intro es
  induction es with
  | nil => rintro c l tm s sn tmF sF ⟨_, rfl⟩; exact ⟨rfl, fun A e B h => by have := congrArg List.length h; simp at this⟩
  | cons x es ih =>
    rintro c l tm s sn tmF sF ⟨⟨_, _, _, rfl, _⟩, _, hch⟩
    refine ⟨rfl, fun A e B h => ?_⟩
    have : hd es sF = x.s' ∧ ∀ A e B, es = A ++ e :: B → hd B sF = e.s' := by
      revert hch
      cases slotOf c N x.o.dst with
      | bad => exact fun h => h.elim
      | no => exact fun h => ih _ _ _ _ _ _ _ h
      | loc d => exact fun h => ih _ _ _ _ _ _ _ h
      | glb d => exact fun h => ih _ _ _ _ _ _ _ h
    cases A with
    | nil =>
      rw [List.nil_append, List.cons.injEq] at h
      rw [← h.1, ← h.2]; exact this.1
    | cons y A =>
      rw [List.cons_append, List.cons.injEq] at h
      exact this.2 A e B h.2
theorem rest_eq {ops : List Oper} : ∀ {es : List Ent} {rest : List (Nat × Oper)}, rest.map (·.1) = es.map Ent.i → (∀ x ∈ rest, ops[x.1]? = some x.2) → (∀ e ∈ es, ops[e.i]? = some e.o) → rest = es.map fun e => (e.i, e.o) := by
  intro es
  induction es with
  | nil => intro rest h _ _; simpa using h
  | cons e es ih =>
    intro rest h h1 h2
    cases rest with
    | nil => simp at h
    | cons x rest =>
      simp only [List.map_cons, List.cons.injEq] at h
      rw [List.map_cons, ih h.2 (fun y hy => h1 y (List.mem_cons_of_mem _ hy)) (fun y hy => h2 y (List.mem_cons_of_mem _ hy))]
      have k1 := h1 x List.mem_cons_self
      have k2 := h2 e List.mem_cons_self
      rw [h.1, k2] at k1
      have : x = (e.i, e.o) := by rw [← h.1, Option.some.inj k1]
      rw [this]
/-- **regions that draw their order** -/
theorem drawOk {E : Env} (hE : EnvOk E) : DrawOk E := by
  intro way hW G N rd id ops t s k hr m w a n hFr hrd
  simp only at hr ⊢
  unfold runDraw at hr ⊢
  cases hc : planChk (ancL ops.toList []) ops.toList (planOf ops.toList) 0 0 [] with
  | false => rw [hc] at hr; exact absurd rfl hr
  | true =>
    rw [hc] at hr
    simp only [cond_true] at hr ⊢
    obtain ⟨es, tmF, sF, h1, h2, h3⟩ := runD_trace hE hW N (ancL ops.toList []) ops.toList _ ⟨G, []⟩ [] t s [] k hr
    obtain ⟨rest, r1, r2, r3, r4⟩ := planChk_ok hc
    obtain ⟨i1, i2, i3, i4, i5, i6⟩ := chain_info hE (tm0 := t) (G := G) es [] ⟨G, []⟩ [] t s [] tmF sF rfl h2 ⟨m, a, w, hFr⟩
      (fun x hx => .inr ⟨fun r h => (by cases h), by rw [okO_tmp] at hx; simpa [idxOf] using hx, by
        rw [okO_tmp] at hx
        have : bit G x = true := by simpa [idxOf] using hx
        rw [ev_tmp, if_pos this]⟩) (fun r h => by cases h) (fun r h => by cases h)
    simp only [List.nil_append] at i1 i4 i5
    obtain ⟨l1, l2⟩ := chain_link es _ _ _ _ _ _ _ h2
    have hop : ∀ e ∈ es, ops.toList[e.i]? = some e.o := by
      intro e he
      obtain ⟨A, B, h⟩ := List.append_of_mem he
      exact (i1 A e B h).1.ok.op
    have hrest := rest_eq (r1.trans h1.symm) r2 hop
    subst hrest
    have hF : Full E N G ops.toList (ancL ops.toList []) es t tmF s sF := by
      refine ⟨i1, fun A e B h r hr => ?_, fun A e B h d hd hb => ?_, fun j hj => ?_, l2, l1, i2, i3, i4, i5, i6⟩
      · exact (r3 (A.map fun e => (e.i, e.o)) (e.i, e.o) (B.map fun e => (e.i, e.o)) (by rw [h]; simp)).pair (r.i, r.o) (List.mem_map.2 ⟨r, hr, rfl⟩)
      · obtain ⟨r, h4, h5⟩ := (r3 (A.map fun e => (e.i, e.o)) (e.i, e.o) (B.map fun e => (e.i, e.o)) (by rw [h]; simp)).edge d hd hb
        obtain ⟨r', h6, rfl⟩ := List.mem_map.1 h4
        exact ⟨r', h6, h5⟩
      · obtain ⟨r, h4, h5⟩ := r4 j hj
        obtain ⟨r', h6, rfl⟩ := List.mem_map.1 h4
        exact ⟨r', h6, h5⟩
    refine wpIn_region_any hE.mixed ?_
    have hno : ∀ j, ¬ (fun j => (Array.replicate ops.size false).getD j false = true) j := by
      intro j h
      simp only [Array.getD_eq_getD_getElem?, Array.getElem?_replicate] at h
      split at h <;> simp at h
    have := draw_any hF hE (m0 := m) (a0 := a) (w0 := w) hFr.env (ro := rd.map m.blk) (n := n) (Q := QO E G N k ((runD E (ancL ops.toList []) N ops.toList (planOf ops.toList) ⟨G, []⟩).f way [] t s [] k) m s w) (fun D m' a' w' hI => ?_)
      ops.size (Array.replicate ops.size false) [] es s m a { w with drawn := w.drawn + 1 } (by simp) ⟨rfl, l1, fun e h => (by cases h), fun e _ h => absurd h (hno _), fun e _ h => absurd h (hno _), hFr.rel, hFr.facts,
        Grow.drew m s s w _ rfl rfl rfl rfl rfl rfl, fun e _ h => absurd h (hno _), fun _ _ => rfl, hFr.env.size, rfl, fun e _ h => absurd h (hno _)⟩
      (by
        have : es.length ≤ ops.size := by
          have e1 : es.length = (planOf ops.toList).length := by rw [← h1]; simp
          have hnd : (es.map Ent.i).Nodup := by
            rw [List.Nodup, List.pairwise_map]
            rw [List.pairwise_iff_getElem]
            intro i j hi hj hij he
            have hs : es = es.take j ++ es[j] :: es.drop (j + 1) := by simp
            exact (hF.pair _ _ _ hs es[i] (by rw [List.mem_take_iff_getElem]; exact ⟨i, by omega, rfl⟩)).ne he
          have hsub : ∀ x ∈ es.map Ent.i, x ∈ List.range ops.size := by
            intro x hx
            obtain ⟨e, he, rfl⟩ := List.mem_map.1 hx
            have := hop e he
            rw [List.mem_range]
            rcases Nat.lt_or_ge e.i ops.toList.length with h | h
            · simpa using h
            · rw [List.getElem?_eq_none h] at this; cases this
          have := nodup_le ops.size _ hnd fun x hx => List.mem_range.1 (hsub x hx)
          simpa using this
        exact Nat.le_trans (List.countP_le_length) this)
    · rw [Array.toArray_toList] at this
      exact this
    · obtain ⟨c, l, hcG, hEn⟩ := i4
      refine ⟨tmF, sF, m', ⟨hI.rel, hI.facts, ⟨hI.size, fun x hx => ?_, i2, fun i d v hd => (by cases hd), rfl, trivial⟩, ?_, ?_⟩, hI.grow, h3⟩
      · have hok : okO c (.tmp x) = true := by rw [okO_tmp, hcG, hx]; rfl
        have hev : (ev c (.tmp x)).f l tmF = gets tmF x := by rw [ev_tmp, hcG, if_pos hx]
        rcases hEn x hok with ⟨r, k1, k2, k3⟩ | ⟨k1, _, k3⟩
        · rw [← hev, k3]; exact hI.tmpsD r k1 (hI.d1 r k1) x k2
        · rw [← hev, k3, hI.tmps0 x (fun e he _ => k1 e he), hFr.env.glb x hx, val_agree hI.grow.agree _ (hFr.env.twf.gets x)]
      · rw [hI.defers, hFr.df, i6, marks_agree hI.grow.agree _ hFr.dfwf]
      · rw [i6]; exact fun d hd => Nat.lt_of_lt_of_le (hFr.dfwf d hd) hI.grow.nx
/-- **what the executor comes to is what the machine comes to** -/
theorem call_sound {E : Env} (hE : EnvOk E) {n : Nat} {f : FuncId} {args : List AV} {s s' : St} {v : AV} (h : callX E n f args s = .ok v s') (m : Ren) (w : World) (hR : Rel m s w.heap) (hf : FactsOk E m.ρ) (hw : wfL s.nx args) (k : Nat) :
    CallsIn Fence.wide k E.P f (valL m args).toArray w (Post m s w v s') := callX_ok hE (drawOk hE) h m w hR hf hw k
#print axioms call_sound
end Go.Vx
