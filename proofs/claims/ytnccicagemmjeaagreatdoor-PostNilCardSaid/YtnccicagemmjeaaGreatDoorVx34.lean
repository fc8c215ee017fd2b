/- The abstract executor: regions that draw their order: what holds at each place of each order. -/
import Derived.Test.YtnccicagemmjeaaGreatDoorVx33
import Derived.OrdersIn
namespace Go.Vx
def hd : List Ent → St → St
  | [], s => s
  | e :: _, _ => e.s
/-- what is known of one run, and of the region -/
structure Full (E : Env) (N G : Nat) (ops : List Oper) (anc : List Nat) (es : List Ent) (tm0 tmF : Tm) (s0 sF : St) : Prop where
  info : ∀ A e B, es = A ++ e :: B → ChainI E N ops anc tm0 A e ∧ e.c.G = G
  pair : ∀ A e B, es = A ++ e :: B → ∀ r ∈ A, PairS anc ops (r.i, r.o) (e.i, e.o)
  edge : ∀ A e B, es = A ++ e :: B → ∀ d ∈ e.o.after.toList, bind1 d = true → ∃ r ∈ A, r.i = d.on
  cover : ∀ j, j < ops.length → ∃ e ∈ es, e.i = j
  link : ∀ A e B, es = A ++ e :: B → hd B sF = e.s'
  head : hd es sF = s0
  finT : TmWf sF.nx tmF
  finS : WfS sF
  finE : ∃ c l, c.G = G ∧ EnvSpec es tm0 c l tmF
  finN : ∀ r ∈ es, r.s'.nx ≤ sF.nx
  finD : sF.df = s0.df
theorem split3 {es A B : List Ent} {e f : Ent} (h : es = A ++ e :: B) (hf : f ∈ es) : f ∈ A ∨ f = e ∨ ∃ B1 B2, es = (A ++ e :: B1) ++ f :: B2 := by
  rw [h] at hf
  rcases List.mem_append.1 hf with hf | hf
  · exact .inl hf
  · rcases List.mem_cons.1 hf with hf | hf
    · exact .inr (.inl hf)
    · obtain ⟨B1, B2, rfl⟩ := List.append_of_mem hf
      exact .inr (.inr ⟨B1, B2, by rw [h]; simp⟩)
theorem Full.uniq {E : Env} {N : Nat} {G : Nat} {ops : List Oper} {anc : List Nat} {es : List Ent} {tm0 : Tm} {tmF : Tm} {s0 : St} {sF : St} (hF : Full E N G ops anc es tm0 tmF s0 sF) {A B : List Ent} {e f : Ent} (h : es = A ++ e :: B) (hf : f ∈ es) (hi : f.i = e.i) : f = e := by
  rcases split3 h hf with h1 | h1 | ⟨B1, B2, h1⟩
  · exact absurd hi (hF.pair A e B h f h1).ne
  · exact h1
  · exact absurd hi.symm (hF.pair _ f B2 h1 e (List.mem_append_right _ List.mem_cons_self)).ne
/-- what was done before a step keeps its value through it -/
theorem Full.stable {E : Env} {N : Nat} {G : Nat} {ops : List Oper} {anc : List Nat} {es : List Ent} {tm0 : Tm} {tmF : Tm} {s0 : St} {sF : St} (hF : Full E N G ops anc es tm0 tmF s0 sF) {A B : List Ent} {e : Ent} (h : es = A ++ e :: B) {D : Nat → Prop} (hcl : ∀ f ∈ es, D f.i → ∀ r, bit (ancAt anc f.i) r = true → D r) (hDe : ¬ D e.i) {m m' : Ren} (ho : m.out e.s.nx e.s'.nx m')
    (hE : EnvOk E) {f : Ent} (hf : f ∈ es) (hDf : D f.i) :
    f.v.val m' = f.v.val m ∧ ∀ ob, ¬ f.eff ops → f.s' = (f.s.new ob).2 → ∀ h0 h1, h1[m.blk f.s.nx]? = h0[m.blk f.s.nx]? → ob.rel m h0 f.s.nx → ob.rel m' h1 f.s.nx := by
  have getnew : ∀ ob, f.s' = (f.s.new ob).2 → f.s'.hp.get f.s.nx = some ob ∧ f.s'.nx = f.s.nx + 1 := by
    intro ob hob
    rw [hob, new_eq]
    exact ⟨get_set_self _ _ _, rfl⟩
  have early : f.s'.nx ≤ e.s.nx → WfE f → f.v.val m' = f.v.val m ∧ ∀ ob, ¬ f.eff ops → f.s' = (f.s.new ob).2 → ∀ h0 h1, h1[m.blk f.s.nx]? = h0[m.blk f.s.nx]? → ob.rel m h0 f.s.nx → ob.rel m' h1 f.s.nx := by
    intro hle hwf
    refine ⟨val_agree (ho.agree hle) _ hwf.v, fun ob _ hob h0 h1 hh hr => ?_⟩
    obtain ⟨g1, g2⟩ := getnew ob hob
    have := hwf.s' _ _ g1
    exact HO.rel_ext this.2 this.1 (ho.agree hle) (fun _ => hh) hr
  rcases split3 h hf with h1 | h1 | ⟨B1, B2, h1⟩
  · obtain ⟨A1, A2, rfl⟩ := List.append_of_mem h1
    have hi := (hF.info A1 f (A2 ++ e :: B) (by rw [h]; simp)).1
    exact early ((hF.info _ e B h).1.before f h1) hi.wf
  · subst h1; exact absurd hDf hDe
  · have hmem : e ∈ A ++ e :: B1 := List.mem_append_right _ List.mem_cons_self
    have hi := (hF.info _ f B2 h1).1
    have hp := hF.pair _ f B2 h1 e hmem
    have hanc : bit (ancAt anc f.i) e.i = false := by
      cases hb : bit (ancAt anc f.i) e.i with
      | false => rfl
      | true => exact absurd (hcl f hf hDf _ hb) hDe
    have hle := hi.before e hmem
    have hie := (hF.info A e B h).1
    by_cases hn : e.s'.nx = e.s.nx
    · have hall : ∀ n, m.agree m' n := fun n => ⟨fun b _ => ho.blk b (by omega), fun b _ => ho.sh b (by omega), fun b _ => ho.cap b (by omega), ho.ρ⟩
      refine ⟨val_agree (hall _) _ hi.wf.v, fun ob _ hob h0 h1 hh hr => ?_⟩
      obtain ⟨g1, g2⟩ := getnew ob hob
      have := hi.wf.s' _ _ g1
      exact HO.rel_ext this.2 this.1 (hall _) (fun _ => hh) hr
    · have hew : e.want ops = true := by
        rcases hie.ok.fact with ⟨_, _, hs⟩ | ⟨hw, _, _, _⟩ | ⟨hw, _, _, _, _, _⟩
        · rw [hs] at hn; exact absurd rfl hn
        · exact hw
        · exact hw
      have hor : isE e.o.op = true ∨ e.s'.nx ≠ e.s.nx := .inr hn
      rcases hi.ok.fact with ⟨hw, hv, hs⟩ | ⟨hw, hii, _, _⟩ | ⟨hw, hii, fs, hfs, _, _⟩
      · refine ⟨by rw [hv]; rfl, fun ob _ hob => ?_⟩
        obtain ⟨_, g2⟩ := getnew ob hob
        rw [hs] at g2; omega
      · exact absurd (hp.eff hii) (by rw [hanc]; simp)
      · obtain ⟨k1, k2, _, _⟩ := (pairD_of hE hi e hmem).sn hw hii hew hanc hor fs hfs
        refine ⟨avOut_val ho _ k1, fun ob _ hob h0 h1 hh hr => ?_⟩
        obtain ⟨g1, g2⟩ := getnew ob hob
        have hho : hoOut e.s.nx e.s'.nx ob = true := by
          rcases k2 with k2 | k2
          · omega
          · unfold St.obj at k2
            rw [g1] at k2; exact k2
        exact hoOut_rel ho hho (.inr hle) hh hr

/-! ### At each place -/
structure Inv (E : Env) (N G : Nat) (ops : List Oper) (anc : List Nat) (es : List Ent) (sF : St) (m0 : Ren) (s0 : St) (a0 : Act) (w0 : World) (es1 es2 : List Ent) (s : St) (D : Nat → Prop) (m : Ren) (a : Act) (w : World) : Prop where
  split : es = es1 ++ es2
  head : hd es2 sF = s
  d1 : ∀ e ∈ es1, D e.i
  q : ∀ e ∈ es2, D e.i → ¬ e.eff ops
  closed : ∀ e ∈ es, D e.i → ∀ r, bit (ancAt anc e.i) r = true → D r
  rel : Rel m s w.heap
  facts : FactsOk E m.ρ
  grow : Grow m0 s0 w0 m s w
  tmpsD : ∀ e ∈ es, D e.i → ∀ d, e.o.dst = some d → a.tmps.getD d undef = e.v.val m
  tmps0 : ∀ t, (∀ e ∈ es, D e.i → e.o.dst ≠ some t) → a.tmps.getD t undef = a0.tmps.getD t undef
  size : a.tmps.size = N
  defers : a.defers = a0.defers
  ahead : ∀ e ∈ es2, D e.i → e.s' = e.s ∨ ∃ ob, e.s' = (e.s.new ob).2 ∧ (∀ g p, ob.key = some (g, p) → g = e.s.nx) ∧ ob.rel m w.heap e.s.nx ∧ w0.heap.size ≤ m.blk e.s.nx ∧ m.blk e.s.nx < w.heap.size ∧
    (∀ b o, s.hp.get b = some o → o.live → m.blk b ≠ m.blk e.s.nx) ∧ ∀ f ∈ es2, D f.i → f.i ≠ e.i → f.s'.nx ≠ f.s.nx → m.blk f.s.nx ≠ m.blk e.s.nx
theorem add_self (m : Ren) (n : Nat) : m.add n (m.blk n) (m.sh n) (m.cap n) = m := by
  cases m
  unfold Ren.add
  congr 1 <;> (funext b; simp only; split <;> first | (rename_i h; rw [h]) | rfl)
theorem rel_grow {m m' : Ren} {s : St} {h h' : Array Obj} (hR : Rel m s h) (ha : m.agree m' s.nx) (hh : ∀ k, k < h.size → h'[k]? = h[k]?) : Rel m' s h' := by
  refine ⟨fun b o hb => ?_, hR.lt, fun b b' o o' hne hb hb' hl hl' he => ?_, hR.mem, hR.gr⟩
  · have := hR.lt b o hb
    exact HO.rel_ext this.2 this.1 ha (fun hl => hh _ (HO.rel_lt (hR.obj b o hb) hl)) (hR.obj b o hb)
  · have h1 := (hR.lt b o hb).1
    have h2 := (hR.lt b' o' hb').1
    rw [ha.blk b h1, ha.blk b' h2] at he
    obtain ⟨g, p, p', e1, e2, e3⟩ := hR.sep b b' o o' hne hb hb' hl hl' he
    exact ⟨g, p, p', e1, e2, by rw [ha.sh b h1, ha.sh b' h2]; exact e3⟩
theorem grow_grow {m0 m m' : Ren} {s0 s : St} {w0 w w' : World} (hR : Rel m s w.heap) (hG : Grow m0 s0 w0 m s w) (ha : m.agree m' s.nx) (hs : w.heap.size ≤ w'.heap.size) (hh : ∀ k, k < w.heap.size → w'.heap[k]? = w.heap[k]?)
    (h1 : w'.os = w.os) (h2 : w'.tape = w.tape) (h3 : w'.output = w.output) : Grow m0 s0 w0 m' s w' := by
  refine ⟨hG.agree.trans ha hG.nx, hG.nx, Nat.le_trans hG.size hs, fun k hk hn => ?_, fun b o hb hl => ?_, h1.trans hG.os, h2.trans hG.tape, h3.trans hG.output⟩
  · rw [hh k (Nat.lt_of_lt_of_le hk hG.size)]; exact hG.frame k hk hn
  · rw [ha.blk b (hR.lt b o hb).1]; exact hG.img b o hb hl
/-- what was done ahead is taken in -/
theorem Inv.advance {E : Env} {N : Nat} {G : Nat} {ops : List Oper} {anc : List Nat} {es : List Ent} {tm0 : Tm} {tmF : Tm} {s0 : St} {sF : St} (hF : Full E N G ops anc es tm0 tmF s0 sF) {m0 : Ren} {a0 : Act} {w0 : World} {es1 B : List Ent} {e : Ent} {s : St} {D : Nat → Prop} {m : Ren} {a : Act} {w : World} (h : Inv E N G ops anc es sF m0 s0 a0 w0 es1 (e :: B) s D m a w) (hDe : D e.i) :
    Inv E N G ops anc es sF m0 s0 a0 w0 (es1 ++ [e]) B e.s' D m a w := by
  have hsp : es = es1 ++ e :: B := h.split
  have hs : e.s = s := h.head
  have hlink := hF.link _ _ _ hsp
  have hi := (hF.info _ _ _ hsp).1
  have base : Rel m e.s' w.heap → Grow m0 s0 w0 m e.s' w → (∀ f ∈ B, D f.i → ∀ b o, e.s'.hp.get b = some o → o.live → f.s' ≠ f.s → m.blk b ≠ m.blk f.s.nx) → Inv E N G ops anc es sF m0 s0 a0 w0 (es1 ++ [e]) B e.s' D m a w := by
    intro hR hG hdis
    refine ⟨by rw [hsp]; simp, hlink, fun f hf => ?_, fun f hf => h.q f (List.mem_cons_of_mem _ hf), h.closed, hR, h.facts, hG, h.tmpsD, h.tmps0, h.size, h.defers, fun f hf hD => ?_⟩
    · rcases List.mem_append.1 hf with hf | hf
      · exact h.d1 f hf
      · rw [List.mem_singleton] at hf; subst hf; exact hDe
    · rcases h.ahead f (List.mem_cons_of_mem _ hf) hD with h1 | ⟨ob, k1, k2, k3, k4, k5, k6, k7⟩
      · exact .inl h1
      · refine .inr ⟨ob, k1, k2, k3, k4, k5, fun b o hb hl => hdis f hf hD b o hb hl (fun he => ?_), fun g hg => k7 g (List.mem_cons_of_mem _ hg)⟩
        have : f.s'.nx = f.s.nx + 1 := by rw [k1]; rfl
        rw [he] at this; omega
  rcases h.ahead e List.mem_cons_self hDe with h1 | ⟨ob, k1, k2, k3, k4, k5, k6, k7⟩
  · rw [h1, hs] at base
    rw [h1, hs]
    refine base h.rel h.grow fun f hf hD b o hb hl hne => ?_
    rcases h.ahead f (List.mem_cons_of_mem _ hf) hD with j1 | ⟨_, _, _, _, _, _, j6, _⟩
    · exact absurd j1 hne
    · exact j6 b o hb hl
  · have hget : e.s'.hp = e.s.hp.set e.s.nx ob := by rw [k1]; rfl
    have hwf := hi.wf.s' e.s.nx ob (by rw [hget]; exact get_set_self _ _ _)
    have hnx : e.s'.nx = e.s.nx + 1 := by rw [k1]; rfl
    rw [hnx] at hwf
    have hR0 : Rel m e.s w.heap := by rw [hs]; exact h.rel
    have hR : Rel m e.s' w.heap := by
      have := rel_add (m := m) (s := e.s) (h' := w.heap) (o := ob) (k := m.blk e.s.nx) (sh := m.sh e.s.nx) (cap := m.cap e.s.nx) (gr' := e.s.gr) hR0 hwf.2 (fun _ _ _ => rfl)
        (fun b o1 hb hl he => absurd he (k6 b o1 (by rw [← hs]; exact hb) hl)) (by rw [add_self]; exact k3) (fun _ _ h => h) (fun g p hk => by
          rw [k2 g p hk]; unfold memG; rw [hR0.gr _ (Nat.le_refl _)]; simp) (fun g hg => hR0.gr g (by omega)) e.s.df
      rw [add_self] at this
      rw [k1, new_eq]; exact this
    refine base hR ?_ fun f hf hD b o hb hl hne => ?_
    · have hG := h.grow
      rw [← hs] at hG
      refine ⟨hG.agree, Nat.le_trans hG.nx hi.wf.le, hG.size, hG.frame, fun b o hb hl => ?_, hG.os, hG.tape, hG.output⟩
      rw [hget] at hb
      by_cases hbe : b = e.s.nx
      · subst hbe; exact .inr k4
      · rw [get_set_ne _ _ hbe] at hb; exact hG.img b o hb hl
    · rcases h.ahead f (List.mem_cons_of_mem _ hf) hD with j1 | ⟨_, j1, _, _, _, _, j6, j7⟩
      · exact absurd j1 hne
      · rw [hget] at hb
        by_cases hbe : b = e.s.nx
        · subst hbe
          refine j7 e List.mem_cons_self hDe ?_ (by omega)
          obtain ⟨B1, B2, rfl⟩ := List.append_of_mem hf
          exact (hF.pair (es1 ++ e :: B1) f B2 (by rw [hsp]; simp) e (List.mem_append_right _ List.mem_cons_self)).ne
        · rw [get_set_ne _ _ hbe] at hb
          exact j6 b o (by rw [← hs]; exact hb) hl
theorem Inv.advances {E : Env} {N : Nat} {G : Nat} {ops : List Oper} {anc : List Nat} {es : List Ent} {tm0 : Tm} {tmF : Tm} {s0 : St} {sF : St} (hF : Full E N G ops anc es tm0 tmF s0 sF) {m0 : Ren} {a0 : Act} {w0 : World} {D : Nat → Prop} {m : Ren} {a : Act} {w : World} : ∀ (X : List Ent) {es1 B : List Ent} {s : St}, Inv E N G ops anc es sF m0 s0 a0 w0 es1 (X ++ B) s D m a w → (∀ e ∈ X, D e.i) →
    Inv E N G ops anc es sF m0 s0 a0 w0 (es1 ++ X) B (hd B sF) D m a w := by
  intro X
  induction X with
  | nil =>
    intro es1 B s h hD
    rw [List.append_nil]
    have : hd B sF = s := h.head
    rw [this]
    exact h
  | cons e X ih =>
    intro es1 B s h hD
    have h1 := Inv.advance hF h (hD e List.mem_cons_self)
    have := ih h1 fun f hf => hD f (List.mem_cons_of_mem _ hf)
    rwa [List.append_assoc, List.singleton_append] at this
/-- temporaries behind a step -/
theorem Inv.tmps {E : Env} {N : Nat} {G : Nat} {ops : List Oper} {anc : List Nat} {es : List Ent} {tm0 : Tm} {tmF : Tm} {s0 : St} {sF : St} (hF : Full E N G ops anc es tm0 tmF s0 sF) {m0 : Ren} {a0 : Act} {w0 : World} {es1 es2 A B : List Ent} {e : Ent} {s : St} {D : Nat → Prop} {m m' : Ren} {a : Act} {w : World} (h : Inv E N G ops anc es sF m0 s0 a0 w0 es1 es2 s D m a w) (hsp : es = A ++ e :: B)
    (hst : ∀ f ∈ es, D f.i → f.v.val m' = f.v.val m) :
    (∀ f ∈ es, (D f.i ∨ f.i = e.i) → ∀ d, f.o.dst = some d → (a.put e.o.dst (e.v.val m')).tmps.getD d undef = f.v.val m') ∧
    (∀ t, (∀ f ∈ es, (D f.i ∨ f.i = e.i) → f.o.dst ≠ some t) → (a.put e.o.dst (e.v.val m')).tmps.getD t undef = a0.tmps.getD t undef) ∧ (a.put e.o.dst (e.v.val m')).tmps.size = N := by
  have hi := (hF.info _ _ _ hsp).1
  have hmem : e ∈ es := by rw [hsp]; exact List.mem_append_right _ List.mem_cons_self
  cases hd : e.o.dst with
  | none =>
    refine ⟨fun f hf hD d hfd => ?_, fun t ht => h.tmps0 t fun f hf hD => ht f hf (.inl hD), h.size⟩
    rcases hD with hD | hD
    · rw [hst f hf hD]; exact h.tmpsD f hf hD d hfd
    · rw [hF.uniq hsp hf hD, hd] at hfd; cases hfd
  | some x =>
    have hx : x < a.tmps.size := by rw [h.size]; exact hi.dstN x hd
    refine ⟨fun f hf hD d hfd => ?_, fun t ht => ?_, by simp [Act.put, h.size]⟩
    · simp only [Act.put]
      rw [getD_set _ _ _ _ hx]
      by_cases hfe : f = e
      · subst hfe
        rw [hd] at hfd
        rw [if_pos (Option.some.inj hfd).symm]
      · have hne : d ≠ x := by
          rintro rfl
          rcases split3 hsp hf with h1 | h1 | ⟨B1, B2, h1⟩
          · exact (hF.pair A e B hsp f h1).dst d hfd hd
          · exact hfe h1
          · exact (hF.pair _ f B2 h1 e (List.mem_append_right _ List.mem_cons_self)).dst d hd hfd
        rw [if_neg hne]
        rcases hD with hD | hD
        · rw [hst f hf hD]; exact h.tmpsD f hf hD d hfd
        · exact absurd (hF.uniq hsp hf hD) hfe
    · simp only [Act.put]
      rw [getD_set _ _ _ _ hx, if_neg (by rintro rfl; exact ht e hmem (.inr rfl) hd)]
      exact h.tmps0 t fun f hf hD => ht f hf (.inl hD)
end Go.Vx
